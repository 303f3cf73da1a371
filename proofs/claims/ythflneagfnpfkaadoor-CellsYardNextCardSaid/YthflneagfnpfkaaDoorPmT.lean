/- What PM asks of the program's types: one fact each. Printed by types.py. -/
import Derived.Test.YthflneagfnpfkaaDoorProg
import Derived.Test.YthflneagfnpfkaaDoorPmI
import Derived.KernelRfl
open Go Go.Proofs
namespace Go.Proofs.YthflneagfnpfkaaDoor
namespace Pm
theorem sz_0 : szOf Tryd.prog 0 = some 1 := by kernel_rfl
theorem ag_0 : aggOf Tryd.prog 0 = some false := by kernel_rfl
theorem by_0 : byOf Tryd.prog 0 = some 0 := by kernel_rfl
theorem ze_0 : zeroOf Tryd.prog 0 = some [Value.tuple { toList := [] }] := by kernel_rfl
theorem un_0 : Tryd.prog.underlying 0 = some (TypeDesc.tuple { toList := [] }) := by kernel_rfl
theorem sz_1 : szOf Tryd.prog 1 = some 1 := by kernel_rfl
theorem ag_1 : aggOf Tryd.prog 1 = some false := by kernel_rfl
theorem by_1 : byOf Tryd.prog 1 = some 8 := by kernel_rfl
theorem ze_1 : zeroOf Tryd.prog 1 = some [Value.nilFunc] := by kernel_rfl
theorem sz_2 : szOf Tryd.prog 2 = some 1 := by kernel_rfl
theorem ag_2 : aggOf Tryd.prog 2 = some false := by kernel_rfl
theorem by_2 : byOf Tryd.prog 2 = some 8 := by kernel_rfl
theorem ze_2 : zeroOf Tryd.prog 2 = some [Value.int IntKind.i64 0] := by kernel_rfl
theorem un_2 : Tryd.prog.underlying 2 = some (TypeDesc.int IntKind.i64) := by kernel_rfl
theorem sz_3 : szOf Tryd.prog 3 = some 1 := by kernel_rfl
theorem ag_3 : aggOf Tryd.prog 3 = some false := by kernel_rfl
theorem by_3 : byOf Tryd.prog 3 = some 8 := by kernel_rfl
theorem ze_3 : zeroOf Tryd.prog 3 = some [Value.int IntKind.i64 0] := by kernel_rfl
theorem un_3 : Tryd.prog.underlying 3 = some (TypeDesc.int IntKind.i64) := by kernel_rfl
theorem sz_4 : szOf Tryd.prog 4 = some 1 := by kernel_rfl
theorem ag_4 : aggOf Tryd.prog 4 = some false := by kernel_rfl
theorem by_4 : byOf Tryd.prog 4 = some 1 := by kernel_rfl
theorem ze_4 : zeroOf Tryd.prog 4 = some [Value.bool false] := by kernel_rfl
theorem un_4 : Tryd.prog.underlying 4 = some TypeDesc.bool := by kernel_rfl
theorem sz_5 : szOf Tryd.prog 5 = some 1 := by kernel_rfl
theorem ag_5 : aggOf Tryd.prog 5 = some false := by kernel_rfl
theorem by_5 : byOf Tryd.prog 5 = some 1 := by kernel_rfl
theorem ze_5 : zeroOf Tryd.prog 5 = some [Value.int IntKind.u8 0] := by kernel_rfl
theorem un_5 : Tryd.prog.underlying 5 = some (TypeDesc.int IntKind.u8) := by kernel_rfl
theorem sz_6 : szOf Tryd.prog 6 = some 1 := by kernel_rfl
theorem ag_6 : aggOf Tryd.prog 6 = some false := by kernel_rfl
theorem by_6 : byOf Tryd.prog 6 = some 1 := by kernel_rfl
theorem ze_6 : zeroOf Tryd.prog 6 = some [Value.int IntKind.u8 0] := by kernel_rfl
theorem un_6 : Tryd.prog.underlying 6 = some (TypeDesc.int IntKind.u8) := by kernel_rfl
theorem sz_7 : szOf Tryd.prog 7 = some 4 := by kernel_rfl
theorem ag_7 : aggOf Tryd.prog 7 = some true := by kernel_rfl
theorem by_7 : byOf Tryd.prog 7 = some 24 := by kernel_rfl
theorem pl_7 : plOf Tryd.prog 7 = some (PL.str [(0, 1), (1, 1), (2, 1), (3, 1)]) := by kernel_rfl
theorem ze_7 : zeroOf Tryd.prog 7 = some [Value.int IntKind.i64 0, Value.int IntKind.i64 0, Value.bool false, Value.int IntKind.u8 0] := by kernel_rfl
theorem eq_7 : eqOf Tryd.prog 7 = some [(0, false), (1, false), (2, true), (3, false)] := by kernel_rfl
theorem fl_7_0 : fldOf Tryd.prog 7 0 = some (0, 2, 1) := by kernel_rfl
theorem fl_7_1 : fldOf Tryd.prog 7 1 = some (1, 3, 1) := by kernel_rfl
theorem fl_7_2 : fldOf Tryd.prog 7 2 = some (2, 4, 1) := by kernel_rfl
theorem fl_7_3 : fldOf Tryd.prog 7 3 = some (3, 6, 1) := by kernel_rfl
theorem sz_8 : szOf Tryd.prog 8 = some 4 := by kernel_rfl
theorem ag_8 : aggOf Tryd.prog 8 = some true := by kernel_rfl
theorem by_8 : byOf Tryd.prog 8 = some 24 := by kernel_rfl
theorem pl_8 : plOf Tryd.prog 8 = some (PL.str [(0, 1), (1, 1), (2, 1), (3, 1)]) := by kernel_rfl
theorem ze_8 : zeroOf Tryd.prog 8 = some [Value.int IntKind.i64 0, Value.int IntKind.i64 0, Value.bool false, Value.int IntKind.u8 0] := by kernel_rfl
theorem eq_8 : eqOf Tryd.prog 8 = some [(0, false), (1, false), (2, true), (3, false)] := by kernel_rfl
theorem fl_8_0 : fldOf Tryd.prog 8 0 = some (0, 2, 1) := by kernel_rfl
theorem fl_8_1 : fldOf Tryd.prog 8 1 = some (1, 3, 1) := by kernel_rfl
theorem fl_8_2 : fldOf Tryd.prog 8 2 = some (2, 4, 1) := by kernel_rfl
theorem fl_8_3 : fldOf Tryd.prog 8 3 = some (3, 6, 1) := by kernel_rfl
theorem sz_9 : szOf Tryd.prog 9 = some 1 := by kernel_rfl
theorem ag_9 : aggOf Tryd.prog 9 = some false := by kernel_rfl
theorem by_9 : byOf Tryd.prog 9 = some 16 := by kernel_rfl
theorem ze_9 : zeroOf Tryd.prog 9 = some [Value.string { data := { toList := [] } }] := by kernel_rfl
theorem un_9 : Tryd.prog.underlying 9 = some TypeDesc.string := by kernel_rfl
theorem sz_10 : szOf Tryd.prog 10 = some 1 := by kernel_rfl
theorem ag_10 : aggOf Tryd.prog 10 = some false := by kernel_rfl
theorem by_10 : byOf Tryd.prog 10 = some 16 := by kernel_rfl
theorem ze_10 : zeroOf Tryd.prog 10 = some [Value.string { data := { toList := [] } }] := by kernel_rfl
theorem un_10 : Tryd.prog.underlying 10 = some TypeDesc.string := by kernel_rfl
theorem sz_11 : szOf Tryd.prog 11 = some 1 := by kernel_rfl
theorem ag_11 : aggOf Tryd.prog 11 = some false := by kernel_rfl
theorem by_11 : byOf Tryd.prog 11 = some 16 := by kernel_rfl
theorem ze_11 : zeroOf Tryd.prog 11 = some [Value.string { data := { toList := [] } }] := by kernel_rfl
theorem un_11 : Tryd.prog.underlying 11 = some TypeDesc.string := by kernel_rfl
theorem sz_12 : szOf Tryd.prog 12 = some 1 := by kernel_rfl
theorem ag_12 : aggOf Tryd.prog 12 = some false := by kernel_rfl
theorem by_12 : byOf Tryd.prog 12 = some 8 := by kernel_rfl
theorem ze_12 : zeroOf Tryd.prog 12 = some [Value.int IntKind.u64 0] := by kernel_rfl
theorem un_12 : Tryd.prog.underlying 12 = some (TypeDesc.int IntKind.u64) := by kernel_rfl
theorem sz_13 : szOf Tryd.prog 13 = some 2 := by kernel_rfl
theorem ag_13 : aggOf Tryd.prog 13 = some true := by kernel_rfl
theorem by_13 : byOf Tryd.prog 13 = some 24 := by kernel_rfl
theorem pl_13 : plOf Tryd.prog 13 = some (PL.str [(0, 1), (1, 1)]) := by kernel_rfl
theorem ze_13 : zeroOf Tryd.prog 13 = some [Value.string { data := { toList := [] } }, Value.int IntKind.u64 0] := by kernel_rfl
theorem fl_13_0 : fldOf Tryd.prog 13 0 = some (0, 9, 1) := by kernel_rfl
theorem fl_13_1 : fldOf Tryd.prog 13 1 = some (1, 12, 1) := by kernel_rfl
theorem sz_14 : szOf Tryd.prog 14 = some 2 := by kernel_rfl
theorem ag_14 : aggOf Tryd.prog 14 = some true := by kernel_rfl
theorem by_14 : byOf Tryd.prog 14 = some 24 := by kernel_rfl
theorem pl_14 : plOf Tryd.prog 14 = some (PL.str [(0, 1), (1, 1)]) := by kernel_rfl
theorem ze_14 : zeroOf Tryd.prog 14 = some [Value.string { data := { toList := [] } }, Value.int IntKind.u64 0] := by kernel_rfl
theorem fl_14_0 : fldOf Tryd.prog 14 0 = some (0, 9, 1) := by kernel_rfl
theorem fl_14_1 : fldOf Tryd.prog 14 1 = some (1, 12, 1) := by kernel_rfl
theorem sz_15 : szOf Tryd.prog 15 = some 1 := by kernel_rfl
theorem ag_15 : aggOf Tryd.prog 15 = some false := by kernel_rfl
theorem by_15 : byOf Tryd.prog 15 = some 8 := by kernel_rfl
theorem ze_15 : zeroOf Tryd.prog 15 = some [Value.pointer none] := by kernel_rfl
theorem un_15 : Tryd.prog.underlying 15 = some (TypeDesc.pointer 96) := by kernel_rfl
theorem sz_16 : szOf Tryd.prog 16 = some 1 := by kernel_rfl
theorem ag_16 : aggOf Tryd.prog 16 = some false := by kernel_rfl
theorem by_16 : byOf Tryd.prog 16 = some 8 := by kernel_rfl
theorem ze_16 : zeroOf Tryd.prog 16 = some [Value.pointer none] := by kernel_rfl
theorem un_16 : Tryd.prog.underlying 16 = some (TypeDesc.pointer 99) := by kernel_rfl
theorem sz_17 : szOf Tryd.prog 17 = some 1 := by kernel_rfl
theorem ag_17 : aggOf Tryd.prog 17 = some false := by kernel_rfl
theorem by_17 : byOf Tryd.prog 17 = some 8 := by kernel_rfl
theorem ze_17 : zeroOf Tryd.prog 17 = some [Value.pointer none] := by kernel_rfl
theorem un_17 : Tryd.prog.underlying 17 = some (TypeDesc.pointer 108) := by kernel_rfl
theorem sz_18 : szOf Tryd.prog 18 = some 1 := by kernel_rfl
theorem ag_18 : aggOf Tryd.prog 18 = some true := by kernel_rfl
theorem by_18 : byOf Tryd.prog 18 = some 8 := by kernel_rfl
theorem pl_18 : plOf Tryd.prog 18 = some (PL.str [(0, 1)]) := by kernel_rfl
theorem ze_18 : zeroOf Tryd.prog 18 = some [Value.pointer none] := by kernel_rfl
theorem fl_18_0 : fldOf Tryd.prog 18 0 = some (0, 17, 1) := by kernel_rfl
theorem sz_19 : szOf Tryd.prog 19 = some 1 := by kernel_rfl
theorem ag_19 : aggOf Tryd.prog 19 = some true := by kernel_rfl
theorem by_19 : byOf Tryd.prog 19 = some 8 := by kernel_rfl
theorem pl_19 : plOf Tryd.prog 19 = some (PL.str [(0, 1)]) := by kernel_rfl
theorem ze_19 : zeroOf Tryd.prog 19 = some [Value.pointer none] := by kernel_rfl
theorem fl_19_0 : fldOf Tryd.prog 19 0 = some (0, 17, 1) := by kernel_rfl
theorem sz_20 : szOf Tryd.prog 20 = some 1 := by kernel_rfl
theorem ag_20 : aggOf Tryd.prog 20 = some false := by kernel_rfl
theorem by_20 : byOf Tryd.prog 20 = some 16 := by kernel_rfl
theorem ze_20 : zeroOf Tryd.prog 20 = some [Value.nilIface] := by kernel_rfl
theorem un_20 : Tryd.prog.underlying 20 = some (TypeDesc.interface { toList := [] }) := by kernel_rfl
theorem sz_21 : szOf Tryd.prog 21 = some 1 := by kernel_rfl
theorem ag_21 : aggOf Tryd.prog 21 = some false := by kernel_rfl
theorem by_21 : byOf Tryd.prog 21 = some 4 := by kernel_rfl
theorem ze_21 : zeroOf Tryd.prog 21 = some [Value.int IntKind.i32 0] := by kernel_rfl
theorem un_21 : Tryd.prog.underlying 21 = some (TypeDesc.int IntKind.i32) := by kernel_rfl
theorem sz_22 : szOf Tryd.prog 22 = some 4 := by kernel_rfl
theorem ag_22 : aggOf Tryd.prog 22 = some true := by kernel_rfl
theorem ar_22 : arrOf Tryd.prog 22 = some (4, 3) := by kernel_rfl
theorem by_22 : byOf Tryd.prog 22 = some 32 := by kernel_rfl
theorem pl_22 : plOf Tryd.prog 22 = some (PL.arr 1) := by kernel_rfl
theorem ze_22 : zeroOf Tryd.prog 22 = some [Value.int IntKind.i64 0, Value.int IntKind.i64 0, Value.int IntKind.i64 0, Value.int IntKind.i64 0] := by kernel_rfl
theorem un_22 : Tryd.prog.underlying 22 = some (TypeDesc.array 4 3) := by kernel_rfl
theorem sz_23 : szOf Tryd.prog 23 = some 1 := by kernel_rfl
theorem ag_23 : aggOf Tryd.prog 23 = some false := by kernel_rfl
theorem sl_23 : slOf Tryd.prog 23 = some 56 := by kernel_rfl
theorem by_23 : byOf Tryd.prog 23 = some 24 := by kernel_rfl
theorem ze_23 : zeroOf Tryd.prog 23 = some [Value.slice none 0 0] := by kernel_rfl
theorem un_23 : Tryd.prog.underlying 23 = some (TypeDesc.slice 56) := by kernel_rfl
theorem sz_24 : szOf Tryd.prog 24 = some 2 := by kernel_rfl
theorem ag_24 : aggOf Tryd.prog 24 = some true := by kernel_rfl
theorem by_24 : byOf Tryd.prog 24 = some 32 := by kernel_rfl
theorem pl_24 : plOf Tryd.prog 24 = some (PL.str [(0, 1), (1, 1)]) := by kernel_rfl
theorem ze_24 : zeroOf Tryd.prog 24 = some [Value.int IntKind.i64 0, Value.slice none 0 0] := by kernel_rfl
theorem fl_24_0 : fldOf Tryd.prog 24 0 = some (0, 3, 1) := by kernel_rfl
theorem fl_24_1 : fldOf Tryd.prog 24 1 = some (1, 23, 1) := by kernel_rfl
theorem sz_25 : szOf Tryd.prog 25 = some 2 := by kernel_rfl
theorem ag_25 : aggOf Tryd.prog 25 = some true := by kernel_rfl
theorem by_25 : byOf Tryd.prog 25 = some 32 := by kernel_rfl
theorem pl_25 : plOf Tryd.prog 25 = some (PL.str [(0, 1), (1, 1)]) := by kernel_rfl
theorem ze_25 : zeroOf Tryd.prog 25 = some [Value.int IntKind.i64 0, Value.slice none 0 0] := by kernel_rfl
theorem fl_25_0 : fldOf Tryd.prog 25 0 = some (0, 3, 1) := by kernel_rfl
theorem fl_25_1 : fldOf Tryd.prog 25 1 = some (1, 23, 1) := by kernel_rfl
theorem sz_26 : szOf Tryd.prog 26 = some 1 := by kernel_rfl
theorem ag_26 : aggOf Tryd.prog 26 = some false := by kernel_rfl
theorem by_26 : byOf Tryd.prog 26 = some 8 := by kernel_rfl
theorem ze_26 : zeroOf Tryd.prog 26 = some [Value.nilFunc] := by kernel_rfl
theorem sz_27 : szOf Tryd.prog 27 = some 1 := by kernel_rfl
theorem ag_27 : aggOf Tryd.prog 27 = some false := by kernel_rfl
theorem by_27 : byOf Tryd.prog 27 = some 8 := by kernel_rfl
theorem ze_27 : zeroOf Tryd.prog 27 = some [Value.nilFunc] := by kernel_rfl
theorem sz_28 : szOf Tryd.prog 28 = some 10 := by kernel_rfl
theorem ag_28 : aggOf Tryd.prog 28 = some true := by kernel_rfl
theorem by_28 : byOf Tryd.prog 28 = some 80 := by kernel_rfl
theorem pl_28 : plOf Tryd.prog 28 = some (PL.str [(0, 1), (1, 1), (2, 1), (3, 1), (4, 1), (5, 1), (6, 1), (7, 1), (8, 1), (9, 1)]) := by kernel_rfl
theorem ze_28 : zeroOf Tryd.prog 28 = some [Value.int IntKind.i64 0, Value.int IntKind.i64 0, Value.int IntKind.i64 0, Value.int IntKind.i64 0, Value.int IntKind.i64 0, Value.int IntKind.i64 0, Value.int IntKind.i64 0, Value.int IntKind.i64 0, Value.int IntKind.i64 0, Value.int IntKind.i64 0] := by kernel_rfl
theorem eq_28 : eqOf Tryd.prog 28 = some [(0, false), (1, false), (2, false), (3, false), (4, false), (5, false), (6, false), (7, false), (8, false), (9, false)] := by kernel_rfl
theorem fl_28_0 : fldOf Tryd.prog 28 0 = some (0, 3, 1) := by kernel_rfl
theorem fl_28_1 : fldOf Tryd.prog 28 1 = some (1, 3, 1) := by kernel_rfl
theorem fl_28_2 : fldOf Tryd.prog 28 2 = some (2, 3, 1) := by kernel_rfl
theorem fl_28_3 : fldOf Tryd.prog 28 3 = some (3, 3, 1) := by kernel_rfl
theorem fl_28_4 : fldOf Tryd.prog 28 4 = some (4, 3, 1) := by kernel_rfl
theorem fl_28_5 : fldOf Tryd.prog 28 5 = some (5, 3, 1) := by kernel_rfl
theorem fl_28_6 : fldOf Tryd.prog 28 6 = some (6, 3, 1) := by kernel_rfl
theorem fl_28_7 : fldOf Tryd.prog 28 7 = some (7, 3, 1) := by kernel_rfl
theorem fl_28_8 : fldOf Tryd.prog 28 8 = some (8, 3, 1) := by kernel_rfl
theorem fl_28_9 : fldOf Tryd.prog 28 9 = some (9, 3, 1) := by kernel_rfl
theorem sz_29 : szOf Tryd.prog 29 = some 10 := by kernel_rfl
theorem ag_29 : aggOf Tryd.prog 29 = some true := by kernel_rfl
theorem by_29 : byOf Tryd.prog 29 = some 80 := by kernel_rfl
theorem pl_29 : plOf Tryd.prog 29 = some (PL.str [(0, 1), (1, 1), (2, 1), (3, 1), (4, 1), (5, 1), (6, 1), (7, 1), (8, 1), (9, 1)]) := by kernel_rfl
theorem ze_29 : zeroOf Tryd.prog 29 = some [Value.int IntKind.i64 0, Value.int IntKind.i64 0, Value.int IntKind.i64 0, Value.int IntKind.i64 0, Value.int IntKind.i64 0, Value.int IntKind.i64 0, Value.int IntKind.i64 0, Value.int IntKind.i64 0, Value.int IntKind.i64 0, Value.int IntKind.i64 0] := by kernel_rfl
theorem eq_29 : eqOf Tryd.prog 29 = some [(0, false), (1, false), (2, false), (3, false), (4, false), (5, false), (6, false), (7, false), (8, false), (9, false)] := by kernel_rfl
theorem fl_29_0 : fldOf Tryd.prog 29 0 = some (0, 3, 1) := by kernel_rfl
theorem fl_29_1 : fldOf Tryd.prog 29 1 = some (1, 3, 1) := by kernel_rfl
theorem fl_29_2 : fldOf Tryd.prog 29 2 = some (2, 3, 1) := by kernel_rfl
theorem fl_29_3 : fldOf Tryd.prog 29 3 = some (3, 3, 1) := by kernel_rfl
theorem fl_29_4 : fldOf Tryd.prog 29 4 = some (4, 3, 1) := by kernel_rfl
theorem fl_29_5 : fldOf Tryd.prog 29 5 = some (5, 3, 1) := by kernel_rfl
theorem fl_29_6 : fldOf Tryd.prog 29 6 = some (6, 3, 1) := by kernel_rfl
theorem fl_29_7 : fldOf Tryd.prog 29 7 = some (7, 3, 1) := by kernel_rfl
theorem fl_29_8 : fldOf Tryd.prog 29 8 = some (8, 3, 1) := by kernel_rfl
theorem fl_29_9 : fldOf Tryd.prog 29 9 = some (9, 3, 1) := by kernel_rfl
theorem sz_30 : szOf Tryd.prog 30 = some 1 := by kernel_rfl
theorem ag_30 : aggOf Tryd.prog 30 = some false := by kernel_rfl
theorem by_30 : byOf Tryd.prog 30 = some 8 := by kernel_rfl
theorem ze_30 : zeroOf Tryd.prog 30 = some [Value.int IntKind.i64 0] := by kernel_rfl
theorem un_30 : Tryd.prog.underlying 30 = some (TypeDesc.int IntKind.i64) := by kernel_rfl
theorem sz_31 : szOf Tryd.prog 31 = some 1 := by kernel_rfl
theorem ag_31 : aggOf Tryd.prog 31 = some false := by kernel_rfl
theorem by_31 : byOf Tryd.prog 31 = some 0 := by kernel_rfl
theorem ze_31 : zeroOf Tryd.prog 31 = some [Value.tuple { toList := [Value.agg { toList := [Value.int IntKind.i64 0, Value.int IntKind.i64 0, Value.int IntKind.i64 0, Value.int IntKind.i64 0, Value.int IntKind.i64 0, Value.int IntKind.i64 0, Value.int IntKind.i64 0, Value.int IntKind.i64 0, Value.int IntKind.i64 0, Value.int IntKind.i64 0] }, Value.int IntKind.i64 0] }] := by kernel_rfl
theorem un_31 : Tryd.prog.underlying 31 = some (TypeDesc.tuple { toList := [29, 30] }) := by kernel_rfl
theorem sz_32 : szOf Tryd.prog 32 = some 1 := by kernel_rfl
theorem ag_32 : aggOf Tryd.prog 32 = some false := by kernel_rfl
theorem by_32 : byOf Tryd.prog 32 = some 8 := by kernel_rfl
theorem ze_32 : zeroOf Tryd.prog 32 = some [Value.nilFunc] := by kernel_rfl
theorem sz_33 : szOf Tryd.prog 33 = some 1 := by kernel_rfl
theorem ag_33 : aggOf Tryd.prog 33 = some false := by kernel_rfl
theorem by_33 : byOf Tryd.prog 33 = some 8 := by kernel_rfl
theorem ze_33 : zeroOf Tryd.prog 33 = some [Value.nilFunc] := by kernel_rfl
theorem sz_34 : szOf Tryd.prog 34 = some 1 := by kernel_rfl
theorem ag_34 : aggOf Tryd.prog 34 = some false := by kernel_rfl
theorem by_34 : byOf Tryd.prog 34 = some 8 := by kernel_rfl
theorem ze_34 : zeroOf Tryd.prog 34 = some [Value.nilFunc] := by kernel_rfl
theorem sz_35 : szOf Tryd.prog 35 = some 1 := by kernel_rfl
theorem ag_35 : aggOf Tryd.prog 35 = some false := by kernel_rfl
theorem by_35 : byOf Tryd.prog 35 = some 8 := by kernel_rfl
theorem ze_35 : zeroOf Tryd.prog 35 = some [Value.nilFunc] := by kernel_rfl
theorem sz_36 : szOf Tryd.prog 36 = some 5 := by kernel_rfl
theorem ag_36 : aggOf Tryd.prog 36 = some true := by kernel_rfl
theorem ar_36 : arrOf Tryd.prog 36 = some (5, 3) := by kernel_rfl
theorem by_36 : byOf Tryd.prog 36 = some 40 := by kernel_rfl
theorem pl_36 : plOf Tryd.prog 36 = some (PL.arr 1) := by kernel_rfl
theorem ze_36 : zeroOf Tryd.prog 36 = some [Value.int IntKind.i64 0, Value.int IntKind.i64 0, Value.int IntKind.i64 0, Value.int IntKind.i64 0, Value.int IntKind.i64 0] := by kernel_rfl
theorem un_36 : Tryd.prog.underlying 36 = some (TypeDesc.array 5 3) := by kernel_rfl
theorem sz_37 : szOf Tryd.prog 37 = some 1 := by kernel_rfl
theorem ag_37 : aggOf Tryd.prog 37 = some false := by kernel_rfl
theorem by_37 : byOf Tryd.prog 37 = some 8 := by kernel_rfl
theorem ze_37 : zeroOf Tryd.prog 37 = some [Value.nilFunc] := by kernel_rfl
theorem sz_38 : szOf Tryd.prog 38 = some 1 := by kernel_rfl
theorem ag_38 : aggOf Tryd.prog 38 = some false := by kernel_rfl
theorem by_38 : byOf Tryd.prog 38 = some 8 := by kernel_rfl
theorem ze_38 : zeroOf Tryd.prog 38 = some [Value.nilFunc] := by kernel_rfl
theorem sz_39 : szOf Tryd.prog 39 = some 1 := by kernel_rfl
theorem ag_39 : aggOf Tryd.prog 39 = some false := by kernel_rfl
theorem by_39 : byOf Tryd.prog 39 = some 8 := by kernel_rfl
theorem ze_39 : zeroOf Tryd.prog 39 = some [Value.nilFunc] := by kernel_rfl
theorem sz_40 : szOf Tryd.prog 40 = some 4 := by kernel_rfl
theorem ag_40 : aggOf Tryd.prog 40 = some true := by kernel_rfl
theorem ar_40 : arrOf Tryd.prog 40 = some (4, 3) := by kernel_rfl
theorem by_40 : byOf Tryd.prog 40 = some 32 := by kernel_rfl
theorem pl_40 : plOf Tryd.prog 40 = some (PL.arr 1) := by kernel_rfl
theorem ze_40 : zeroOf Tryd.prog 40 = some [Value.int IntKind.i64 0, Value.int IntKind.i64 0, Value.int IntKind.i64 0, Value.int IntKind.i64 0] := by kernel_rfl
theorem un_40 : Tryd.prog.underlying 40 = some (TypeDesc.array 4 3) := by kernel_rfl
theorem sz_41 : szOf Tryd.prog 41 = some 1 := by kernel_rfl
theorem ag_41 : aggOf Tryd.prog 41 = some false := by kernel_rfl
theorem sl_41 : slOf Tryd.prog 41 = some 3 := by kernel_rfl
theorem by_41 : byOf Tryd.prog 41 = some 24 := by kernel_rfl
theorem ze_41 : zeroOf Tryd.prog 41 = some [Value.slice none 0 0] := by kernel_rfl
theorem un_41 : Tryd.prog.underlying 41 = some (TypeDesc.slice 3) := by kernel_rfl
theorem sz_42 : szOf Tryd.prog 42 = some 40 := by kernel_rfl
theorem ag_42 : aggOf Tryd.prog 42 = some true := by kernel_rfl
theorem ar_42 : arrOf Tryd.prog 42 = some (4, 29) := by kernel_rfl
theorem by_42 : byOf Tryd.prog 42 = some 320 := by kernel_rfl
theorem pl_42 : plOf Tryd.prog 42 = some (PL.arr 10) := by kernel_rfl
theorem ze_42 : zeroOf Tryd.prog 42 = some [Value.int IntKind.i64 0, Value.int IntKind.i64 0, Value.int IntKind.i64 0, Value.int IntKind.i64 0, Value.int IntKind.i64 0, Value.int IntKind.i64 0, Value.int IntKind.i64 0, Value.int IntKind.i64 0, Value.int IntKind.i64 0, Value.int IntKind.i64 0, Value.int IntKind.i64 0, Value.int IntKind.i64 0, Value.int IntKind.i64 0, Value.int IntKind.i64 0, Value.int IntKind.i64 0, Value.int IntKind.i64 0, Value.int IntKind.i64 0, Value.int IntKind.i64 0, Value.int IntKind.i64 0, Value.int IntKind.i64 0, Value.int IntKind.i64 0, Value.int IntKind.i64 0, Value.int IntKind.i64 0, Value.int IntKind.i64 0, Value.int IntKind.i64 0, Value.int IntKind.i64 0, Value.int IntKind.i64 0, Value.int IntKind.i64 0, Value.int IntKind.i64 0, Value.int IntKind.i64 0, Value.int IntKind.i64 0, Value.int IntKind.i64 0, Value.int IntKind.i64 0, Value.int IntKind.i64 0, Value.int IntKind.i64 0, Value.int IntKind.i64 0, Value.int IntKind.i64 0, Value.int IntKind.i64 0, Value.int IntKind.i64 0, Value.int IntKind.i64 0] := by kernel_rfl
theorem un_42 : Tryd.prog.underlying 42 = some (TypeDesc.array 4 29) := by kernel_rfl
theorem sz_43 : szOf Tryd.prog 43 = some 50 := by kernel_rfl
theorem ag_43 : aggOf Tryd.prog 43 = some true := by kernel_rfl
theorem by_43 : byOf Tryd.prog 43 = some 400 := by kernel_rfl
theorem pl_43 : plOf Tryd.prog 43 = some (PL.str [(0, 10), (10, 40)]) := by kernel_rfl
theorem fl_43_0 : fldOf Tryd.prog 43 0 = some (0, 29, 10) := by kernel_rfl
theorem fl_43_1 : fldOf Tryd.prog 43 1 = some (10, 42, 40) := by kernel_rfl
theorem sz_44 : szOf Tryd.prog 44 = some 50 := by kernel_rfl
theorem ag_44 : aggOf Tryd.prog 44 = some true := by kernel_rfl
theorem by_44 : byOf Tryd.prog 44 = some 400 := by kernel_rfl
theorem pl_44 : plOf Tryd.prog 44 = some (PL.str [(0, 10), (10, 40)]) := by kernel_rfl
theorem fl_44_0 : fldOf Tryd.prog 44 0 = some (0, 29, 10) := by kernel_rfl
theorem fl_44_1 : fldOf Tryd.prog 44 1 = some (10, 42, 40) := by kernel_rfl
theorem sz_45 : szOf Tryd.prog 45 = some 1 := by kernel_rfl
theorem ag_45 : aggOf Tryd.prog 45 = some false := by kernel_rfl
theorem by_45 : byOf Tryd.prog 45 = some 8 := by kernel_rfl
theorem ze_45 : zeroOf Tryd.prog 45 = some [Value.nilFunc] := by kernel_rfl
theorem sz_46 : szOf Tryd.prog 46 = some 1 := by kernel_rfl
theorem ag_46 : aggOf Tryd.prog 46 = some false := by kernel_rfl
theorem by_46 : byOf Tryd.prog 46 = some 8 := by kernel_rfl
theorem ze_46 : zeroOf Tryd.prog 46 = some [Value.nilFunc] := by kernel_rfl
theorem sz_47 : szOf Tryd.prog 47 = some 1 := by kernel_rfl
theorem ag_47 : aggOf Tryd.prog 47 = some false := by kernel_rfl
theorem by_47 : byOf Tryd.prog 47 = some 8 := by kernel_rfl
theorem ze_47 : zeroOf Tryd.prog 47 = some [Value.nilFunc] := by kernel_rfl
theorem sz_48 : szOf Tryd.prog 48 = some 1 := by kernel_rfl
theorem ag_48 : aggOf Tryd.prog 48 = some false := by kernel_rfl
theorem by_48 : byOf Tryd.prog 48 = some 8 := by kernel_rfl
theorem ze_48 : zeroOf Tryd.prog 48 = some [Value.nilFunc] := by kernel_rfl
theorem sz_49 : szOf Tryd.prog 49 = some 1 := by kernel_rfl
theorem ag_49 : aggOf Tryd.prog 49 = some false := by kernel_rfl
theorem by_49 : byOf Tryd.prog 49 = some 0 := by kernel_rfl
theorem ze_49 : zeroOf Tryd.prog 49 = some [Value.tuple { toList := [Value.int IntKind.i64 0, Value.int IntKind.i64 0] }] := by kernel_rfl
theorem un_49 : Tryd.prog.underlying 49 = some (TypeDesc.tuple { toList := [3, 30] }) := by kernel_rfl
theorem sz_50 : szOf Tryd.prog 50 = some 1 := by kernel_rfl
theorem ag_50 : aggOf Tryd.prog 50 = some false := by kernel_rfl
theorem by_50 : byOf Tryd.prog 50 = some 8 := by kernel_rfl
theorem ze_50 : zeroOf Tryd.prog 50 = some [Value.nilFunc] := by kernel_rfl
theorem sz_51 : szOf Tryd.prog 51 = some 1 := by kernel_rfl
theorem ag_51 : aggOf Tryd.prog 51 = some false := by kernel_rfl
theorem by_51 : byOf Tryd.prog 51 = some 0 := by kernel_rfl
theorem ze_51 : zeroOf Tryd.prog 51 = some [Value.tuple { toList := [Value.slice none 0 0, Value.slice none 0 0] }] := by kernel_rfl
theorem un_51 : Tryd.prog.underlying 51 = some (TypeDesc.tuple { toList := [41, 41] }) := by kernel_rfl
theorem sz_52 : szOf Tryd.prog 52 = some 1 := by kernel_rfl
theorem ag_52 : aggOf Tryd.prog 52 = some false := by kernel_rfl
theorem by_52 : byOf Tryd.prog 52 = some 8 := by kernel_rfl
theorem ze_52 : zeroOf Tryd.prog 52 = some [Value.nilFunc] := by kernel_rfl
theorem sz_53 : szOf Tryd.prog 53 = some 1 := by kernel_rfl
theorem ag_53 : aggOf Tryd.prog 53 = some false := by kernel_rfl
theorem by_53 : byOf Tryd.prog 53 = some 8 := by kernel_rfl
theorem ze_53 : zeroOf Tryd.prog 53 = some [Value.nilFunc] := by kernel_rfl
theorem sz_54 : szOf Tryd.prog 54 = some 1 := by kernel_rfl
theorem ag_54 : aggOf Tryd.prog 54 = some false := by kernel_rfl
theorem by_54 : byOf Tryd.prog 54 = some 8 := by kernel_rfl
theorem ze_54 : zeroOf Tryd.prog 54 = some [Value.nilFunc] := by kernel_rfl
theorem sz_55 : szOf Tryd.prog 55 = some 6 := by kernel_rfl
theorem ag_55 : aggOf Tryd.prog 55 = some true := by kernel_rfl
theorem by_55 : byOf Tryd.prog 55 = some 48 := by kernel_rfl
theorem pl_55 : plOf Tryd.prog 55 = some (PL.str [(0, 1), (1, 1), (2, 1), (3, 1), (4, 1), (5, 1)]) := by kernel_rfl
theorem ze_55 : zeroOf Tryd.prog 55 = some [Value.int IntKind.i64 0, Value.int IntKind.i64 0, Value.int IntKind.i64 0, Value.int IntKind.i64 0, Value.int IntKind.i64 0, Value.int IntKind.i64 0] := by kernel_rfl
theorem eq_55 : eqOf Tryd.prog 55 = some [(0, false), (1, false), (2, false), (3, false), (4, false), (5, false)] := by kernel_rfl
theorem fl_55_0 : fldOf Tryd.prog 55 0 = some (0, 3, 1) := by kernel_rfl
theorem fl_55_1 : fldOf Tryd.prog 55 1 = some (1, 3, 1) := by kernel_rfl
theorem fl_55_2 : fldOf Tryd.prog 55 2 = some (2, 3, 1) := by kernel_rfl
theorem fl_55_3 : fldOf Tryd.prog 55 3 = some (3, 3, 1) := by kernel_rfl
theorem fl_55_4 : fldOf Tryd.prog 55 4 = some (4, 3, 1) := by kernel_rfl
theorem fl_55_5 : fldOf Tryd.prog 55 5 = some (5, 3, 1) := by kernel_rfl
theorem sz_56 : szOf Tryd.prog 56 = some 6 := by kernel_rfl
theorem ag_56 : aggOf Tryd.prog 56 = some true := by kernel_rfl
theorem by_56 : byOf Tryd.prog 56 = some 48 := by kernel_rfl
theorem pl_56 : plOf Tryd.prog 56 = some (PL.str [(0, 1), (1, 1), (2, 1), (3, 1), (4, 1), (5, 1)]) := by kernel_rfl
theorem ze_56 : zeroOf Tryd.prog 56 = some [Value.int IntKind.i64 0, Value.int IntKind.i64 0, Value.int IntKind.i64 0, Value.int IntKind.i64 0, Value.int IntKind.i64 0, Value.int IntKind.i64 0] := by kernel_rfl
theorem eq_56 : eqOf Tryd.prog 56 = some [(0, false), (1, false), (2, false), (3, false), (4, false), (5, false)] := by kernel_rfl
theorem fl_56_0 : fldOf Tryd.prog 56 0 = some (0, 3, 1) := by kernel_rfl
theorem fl_56_1 : fldOf Tryd.prog 56 1 = some (1, 3, 1) := by kernel_rfl
theorem fl_56_2 : fldOf Tryd.prog 56 2 = some (2, 3, 1) := by kernel_rfl
theorem fl_56_3 : fldOf Tryd.prog 56 3 = some (3, 3, 1) := by kernel_rfl
theorem fl_56_4 : fldOf Tryd.prog 56 4 = some (4, 3, 1) := by kernel_rfl
theorem fl_56_5 : fldOf Tryd.prog 56 5 = some (5, 3, 1) := by kernel_rfl
theorem sz_57 : szOf Tryd.prog 57 = some 1 := by kernel_rfl
theorem ag_57 : aggOf Tryd.prog 57 = some false := by kernel_rfl
theorem by_57 : byOf Tryd.prog 57 = some 8 := by kernel_rfl
theorem ze_57 : zeroOf Tryd.prog 57 = some [Value.nilFunc] := by kernel_rfl
theorem sz_58 : szOf Tryd.prog 58 = some 1 := by kernel_rfl
theorem ag_58 : aggOf Tryd.prog 58 = some false := by kernel_rfl
theorem by_58 : byOf Tryd.prog 58 = some 8 := by kernel_rfl
theorem ze_58 : zeroOf Tryd.prog 58 = some [Value.nilFunc] := by kernel_rfl
theorem sz_59 : szOf Tryd.prog 59 = some 1 := by kernel_rfl
theorem ag_59 : aggOf Tryd.prog 59 = some false := by kernel_rfl
theorem by_59 : byOf Tryd.prog 59 = some 8 := by kernel_rfl
theorem ze_59 : zeroOf Tryd.prog 59 = some [Value.nilFunc] := by kernel_rfl
theorem sz_60 : szOf Tryd.prog 60 = some 1 := by kernel_rfl
theorem ag_60 : aggOf Tryd.prog 60 = some false := by kernel_rfl
theorem by_60 : byOf Tryd.prog 60 = some 8 := by kernel_rfl
theorem ze_60 : zeroOf Tryd.prog 60 = some [Value.nilFunc] := by kernel_rfl
theorem sz_61 : szOf Tryd.prog 61 = some 1 := by kernel_rfl
theorem ag_61 : aggOf Tryd.prog 61 = some false := by kernel_rfl
theorem by_61 : byOf Tryd.prog 61 = some 0 := by kernel_rfl
theorem ze_61 : zeroOf Tryd.prog 61 = some [Value.tuple { toList := [Value.int IntKind.i64 0, Value.bool false] }] := by kernel_rfl
theorem un_61 : Tryd.prog.underlying 61 = some (TypeDesc.tuple { toList := [3, 4] }) := by kernel_rfl
theorem sz_62 : szOf Tryd.prog 62 = some 1 := by kernel_rfl
theorem ag_62 : aggOf Tryd.prog 62 = some false := by kernel_rfl
theorem by_62 : byOf Tryd.prog 62 = some 8 := by kernel_rfl
theorem ze_62 : zeroOf Tryd.prog 62 = some [Value.nilFunc] := by kernel_rfl
theorem sz_63 : szOf Tryd.prog 63 = some 1 := by kernel_rfl
theorem ag_63 : aggOf Tryd.prog 63 = some false := by kernel_rfl
theorem by_63 : byOf Tryd.prog 63 = some 8 := by kernel_rfl
theorem ze_63 : zeroOf Tryd.prog 63 = some [Value.nilFunc] := by kernel_rfl
theorem sz_64 : szOf Tryd.prog 64 = some 1 := by kernel_rfl
theorem ag_64 : aggOf Tryd.prog 64 = some false := by kernel_rfl
theorem by_64 : byOf Tryd.prog 64 = some 8 := by kernel_rfl
theorem ze_64 : zeroOf Tryd.prog 64 = some [Value.nilFunc] := by kernel_rfl
theorem sz_65 : szOf Tryd.prog 65 = some 1 := by kernel_rfl
theorem ag_65 : aggOf Tryd.prog 65 = some false := by kernel_rfl
theorem sl_65 : slOf Tryd.prog 65 = some 70 := by kernel_rfl
theorem by_65 : byOf Tryd.prog 65 = some 24 := by kernel_rfl
theorem ze_65 : zeroOf Tryd.prog 65 = some [Value.slice none 0 0] := by kernel_rfl
theorem un_65 : Tryd.prog.underlying 65 = some (TypeDesc.slice 70) := by kernel_rfl
theorem sz_66 : szOf Tryd.prog 66 = some 1 := by kernel_rfl
theorem ag_66 : aggOf Tryd.prog 66 = some false := by kernel_rfl
theorem by_66 : byOf Tryd.prog 66 = some 8 := by kernel_rfl
theorem ze_66 : zeroOf Tryd.prog 66 = some [Value.nilFunc] := by kernel_rfl
theorem sz_67 : szOf Tryd.prog 67 = some 1 := by kernel_rfl
theorem ag_67 : aggOf Tryd.prog 67 = some false := by kernel_rfl
theorem by_67 : byOf Tryd.prog 67 = some 8 := by kernel_rfl
theorem ze_67 : zeroOf Tryd.prog 67 = some [Value.pointer none] := by kernel_rfl
theorem un_67 : Tryd.prog.underlying 67 = some (TypeDesc.pointer 29) := by kernel_rfl
theorem sz_68 : szOf Tryd.prog 68 = some 1 := by kernel_rfl
theorem ag_68 : aggOf Tryd.prog 68 = some false := by kernel_rfl
theorem by_68 : byOf Tryd.prog 68 = some 8 := by kernel_rfl
theorem ze_68 : zeroOf Tryd.prog 68 = some [Value.pointer none] := by kernel_rfl
theorem un_68 : Tryd.prog.underlying 68 = some (TypeDesc.pointer 3) := by kernel_rfl
theorem sz_69 : szOf Tryd.prog 69 = some 2 := by kernel_rfl
theorem ag_69 : aggOf Tryd.prog 69 = some true := by kernel_rfl
theorem by_69 : byOf Tryd.prog 69 = some 16 := by kernel_rfl
theorem pl_69 : plOf Tryd.prog 69 = some (PL.str [(0, 1), (1, 1)]) := by kernel_rfl
theorem ze_69 : zeroOf Tryd.prog 69 = some [Value.int IntKind.i64 0, Value.pointer none] := by kernel_rfl
theorem fl_69_0 : fldOf Tryd.prog 69 0 = some (0, 3, 1) := by kernel_rfl
theorem fl_69_1 : fldOf Tryd.prog 69 1 = some (1, 68, 1) := by kernel_rfl
theorem sz_70 : szOf Tryd.prog 70 = some 2 := by kernel_rfl
theorem ag_70 : aggOf Tryd.prog 70 = some true := by kernel_rfl
theorem by_70 : byOf Tryd.prog 70 = some 16 := by kernel_rfl
theorem pl_70 : plOf Tryd.prog 70 = some (PL.str [(0, 1), (1, 1)]) := by kernel_rfl
theorem ze_70 : zeroOf Tryd.prog 70 = some [Value.int IntKind.i64 0, Value.pointer none] := by kernel_rfl
theorem fl_70_0 : fldOf Tryd.prog 70 0 = some (0, 3, 1) := by kernel_rfl
theorem fl_70_1 : fldOf Tryd.prog 70 1 = some (1, 68, 1) := by kernel_rfl
theorem sz_71 : szOf Tryd.prog 71 = some 1 := by kernel_rfl
theorem ag_71 : aggOf Tryd.prog 71 = some false := by kernel_rfl
theorem by_71 : byOf Tryd.prog 71 = some 0 := by kernel_rfl
theorem ze_71 : zeroOf Tryd.prog 71 = some [Value.tuple { toList := [Value.int IntKind.i64 0, Value.int IntKind.i64 0, Value.bool false] }] := by kernel_rfl
theorem un_71 : Tryd.prog.underlying 71 = some (TypeDesc.tuple { toList := [3, 3, 4] }) := by kernel_rfl
theorem sz_72 : szOf Tryd.prog 72 = some 1 := by kernel_rfl
theorem ag_72 : aggOf Tryd.prog 72 = some false := by kernel_rfl
theorem by_72 : byOf Tryd.prog 72 = some 8 := by kernel_rfl
theorem ze_72 : zeroOf Tryd.prog 72 = some [Value.nilFunc] := by kernel_rfl
theorem sz_73 : szOf Tryd.prog 73 = some 1 := by kernel_rfl
theorem ag_73 : aggOf Tryd.prog 73 = some false := by kernel_rfl
theorem by_73 : byOf Tryd.prog 73 = some 0 := by kernel_rfl
theorem ze_73 : zeroOf Tryd.prog 73 = some [Value.tuple { toList := [Value.bool false, Value.bool false] }] := by kernel_rfl
theorem un_73 : Tryd.prog.underlying 73 = some (TypeDesc.tuple { toList := [4, 4] }) := by kernel_rfl
theorem sz_74 : szOf Tryd.prog 74 = some 1 := by kernel_rfl
theorem ag_74 : aggOf Tryd.prog 74 = some false := by kernel_rfl
theorem by_74 : byOf Tryd.prog 74 = some 8 := by kernel_rfl
theorem ze_74 : zeroOf Tryd.prog 74 = some [Value.nilFunc] := by kernel_rfl
theorem sz_75 : szOf Tryd.prog 75 = some 1 := by kernel_rfl
theorem ag_75 : aggOf Tryd.prog 75 = some false := by kernel_rfl
theorem by_75 : byOf Tryd.prog 75 = some 8 := by kernel_rfl
theorem ze_75 : zeroOf Tryd.prog 75 = some [Value.nilFunc] := by kernel_rfl
theorem sz_76 : szOf Tryd.prog 76 = some 40 := by kernel_rfl
theorem ag_76 : aggOf Tryd.prog 76 = some true := by kernel_rfl
theorem ar_76 : arrOf Tryd.prog 76 = some (4, 29) := by kernel_rfl
theorem by_76 : byOf Tryd.prog 76 = some 320 := by kernel_rfl
theorem pl_76 : plOf Tryd.prog 76 = some (PL.arr 10) := by kernel_rfl
theorem ze_76 : zeroOf Tryd.prog 76 = some [Value.int IntKind.i64 0, Value.int IntKind.i64 0, Value.int IntKind.i64 0, Value.int IntKind.i64 0, Value.int IntKind.i64 0, Value.int IntKind.i64 0, Value.int IntKind.i64 0, Value.int IntKind.i64 0, Value.int IntKind.i64 0, Value.int IntKind.i64 0, Value.int IntKind.i64 0, Value.int IntKind.i64 0, Value.int IntKind.i64 0, Value.int IntKind.i64 0, Value.int IntKind.i64 0, Value.int IntKind.i64 0, Value.int IntKind.i64 0, Value.int IntKind.i64 0, Value.int IntKind.i64 0, Value.int IntKind.i64 0, Value.int IntKind.i64 0, Value.int IntKind.i64 0, Value.int IntKind.i64 0, Value.int IntKind.i64 0, Value.int IntKind.i64 0, Value.int IntKind.i64 0, Value.int IntKind.i64 0, Value.int IntKind.i64 0, Value.int IntKind.i64 0, Value.int IntKind.i64 0, Value.int IntKind.i64 0, Value.int IntKind.i64 0, Value.int IntKind.i64 0, Value.int IntKind.i64 0, Value.int IntKind.i64 0, Value.int IntKind.i64 0, Value.int IntKind.i64 0, Value.int IntKind.i64 0, Value.int IntKind.i64 0, Value.int IntKind.i64 0] := by kernel_rfl
theorem un_76 : Tryd.prog.underlying 76 = some (TypeDesc.array 4 29) := by kernel_rfl
theorem sz_77 : szOf Tryd.prog 77 = some 1 := by kernel_rfl
theorem ag_77 : aggOf Tryd.prog 77 = some false := by kernel_rfl
theorem by_77 : byOf Tryd.prog 77 = some 8 := by kernel_rfl
theorem ze_77 : zeroOf Tryd.prog 77 = some [Value.nilFunc] := by kernel_rfl
theorem sz_78 : szOf Tryd.prog 78 = some 1 := by kernel_rfl
theorem ag_78 : aggOf Tryd.prog 78 = some false := by kernel_rfl
theorem by_78 : byOf Tryd.prog 78 = some 8 := by kernel_rfl
theorem ze_78 : zeroOf Tryd.prog 78 = some [Value.nilFunc] := by kernel_rfl
theorem sz_79 : szOf Tryd.prog 79 = some 1 := by kernel_rfl
theorem ag_79 : aggOf Tryd.prog 79 = some false := by kernel_rfl
theorem by_79 : byOf Tryd.prog 79 = some 8 := by kernel_rfl
theorem ze_79 : zeroOf Tryd.prog 79 = some [Value.nilFunc] := by kernel_rfl
theorem sz_80 : szOf Tryd.prog 80 = some 8 := by kernel_rfl
theorem ag_80 : aggOf Tryd.prog 80 = some true := by kernel_rfl
theorem ar_80 : arrOf Tryd.prog 80 = some (8, 9) := by kernel_rfl
theorem by_80 : byOf Tryd.prog 80 = some 128 := by kernel_rfl
theorem pl_80 : plOf Tryd.prog 80 = some (PL.arr 1) := by kernel_rfl
theorem ze_80 : zeroOf Tryd.prog 80 = some [Value.string { data := { toList := [] } }, Value.string { data := { toList := [] } }, Value.string { data := { toList := [] } }, Value.string { data := { toList := [] } }, Value.string { data := { toList := [] } }, Value.string { data := { toList := [] } }, Value.string { data := { toList := [] } }, Value.string { data := { toList := [] } }] := by kernel_rfl
theorem un_80 : Tryd.prog.underlying 80 = some (TypeDesc.array 8 9) := by kernel_rfl
theorem sz_81 : szOf Tryd.prog 81 = some 2 := by kernel_rfl
theorem ag_81 : aggOf Tryd.prog 81 = some true := by kernel_rfl
theorem by_81 : byOf Tryd.prog 81 = some 24 := by kernel_rfl
theorem pl_81 : plOf Tryd.prog 81 = some (PL.str [(0, 1), (1, 1)]) := by kernel_rfl
theorem ze_81 : zeroOf Tryd.prog 81 = some [Value.string { data := { toList := [] } }, Value.int IntKind.i64 0] := by kernel_rfl
theorem fl_81_0 : fldOf Tryd.prog 81 0 = some (0, 9, 1) := by kernel_rfl
theorem fl_81_1 : fldOf Tryd.prog 81 1 = some (1, 3, 1) := by kernel_rfl
theorem sz_82 : szOf Tryd.prog 82 = some 18 := by kernel_rfl
theorem ag_82 : aggOf Tryd.prog 82 = some true := by kernel_rfl
theorem ar_82 : arrOf Tryd.prog 82 = some (9, 81) := by kernel_rfl
theorem by_82 : byOf Tryd.prog 82 = some 216 := by kernel_rfl
theorem pl_82 : plOf Tryd.prog 82 = some (PL.arr 2) := by kernel_rfl
theorem ze_82 : zeroOf Tryd.prog 82 = some [Value.string { data := { toList := [] } }, Value.int IntKind.i64 0, Value.string { data := { toList := [] } }, Value.int IntKind.i64 0, Value.string { data := { toList := [] } }, Value.int IntKind.i64 0, Value.string { data := { toList := [] } }, Value.int IntKind.i64 0, Value.string { data := { toList := [] } }, Value.int IntKind.i64 0, Value.string { data := { toList := [] } }, Value.int IntKind.i64 0, Value.string { data := { toList := [] } }, Value.int IntKind.i64 0, Value.string { data := { toList := [] } }, Value.int IntKind.i64 0, Value.string { data := { toList := [] } }, Value.int IntKind.i64 0] := by kernel_rfl
theorem un_82 : Tryd.prog.underlying 82 = some (TypeDesc.array 9 81) := by kernel_rfl
theorem sz_83 : szOf Tryd.prog 83 = some 1 := by kernel_rfl
theorem ag_83 : aggOf Tryd.prog 83 = some false := by kernel_rfl
theorem by_83 : byOf Tryd.prog 83 = some 8 := by kernel_rfl
theorem ze_83 : zeroOf Tryd.prog 83 = some [Value.nilFunc] := by kernel_rfl
theorem sz_84 : szOf Tryd.prog 84 = some 1 := by kernel_rfl
theorem ag_84 : aggOf Tryd.prog 84 = some false := by kernel_rfl
theorem by_84 : byOf Tryd.prog 84 = some 0 := by kernel_rfl
theorem ze_84 : zeroOf Tryd.prog 84 = some [Value.tuple { toList := [Value.bool false, Value.bool false, Value.bool false] }] := by kernel_rfl
theorem un_84 : Tryd.prog.underlying 84 = some (TypeDesc.tuple { toList := [4, 4, 4] }) := by kernel_rfl
theorem sz_85 : szOf Tryd.prog 85 = some 1 := by kernel_rfl
theorem ag_85 : aggOf Tryd.prog 85 = some false := by kernel_rfl
theorem by_85 : byOf Tryd.prog 85 = some 8 := by kernel_rfl
theorem ze_85 : zeroOf Tryd.prog 85 = some [Value.nilFunc] := by kernel_rfl
theorem sz_86 : szOf Tryd.prog 86 = some 1 := by kernel_rfl
theorem ag_86 : aggOf Tryd.prog 86 = some false := by kernel_rfl
theorem by_86 : byOf Tryd.prog 86 = some 8 := by kernel_rfl
theorem ze_86 : zeroOf Tryd.prog 86 = some [Value.pointer none] := by kernel_rfl
theorem un_86 : Tryd.prog.underlying 86 = some (TypeDesc.pointer 76) := by kernel_rfl
theorem sz_87 : szOf Tryd.prog 87 = some 1 := by kernel_rfl
theorem ag_87 : aggOf Tryd.prog 87 = some false := by kernel_rfl
theorem by_87 : byOf Tryd.prog 87 = some 8 := by kernel_rfl
theorem ze_87 : zeroOf Tryd.prog 87 = some [Value.nilFunc] := by kernel_rfl
theorem sz_88 : szOf Tryd.prog 88 = some 1 := by kernel_rfl
theorem ag_88 : aggOf Tryd.prog 88 = some false := by kernel_rfl
theorem by_88 : byOf Tryd.prog 88 = some 8 := by kernel_rfl
theorem ze_88 : zeroOf Tryd.prog 88 = some [Value.nilFunc] := by kernel_rfl
theorem sz_89 : szOf Tryd.prog 89 = some 1 := by kernel_rfl
theorem ag_89 : aggOf Tryd.prog 89 = some false := by kernel_rfl
theorem by_89 : byOf Tryd.prog 89 = some 8 := by kernel_rfl
theorem ze_89 : zeroOf Tryd.prog 89 = some [Value.nilFunc] := by kernel_rfl
theorem sz_90 : szOf Tryd.prog 90 = some 1 := by kernel_rfl
theorem ag_90 : aggOf Tryd.prog 90 = some false := by kernel_rfl
theorem by_90 : byOf Tryd.prog 90 = some 8 := by kernel_rfl
theorem ze_90 : zeroOf Tryd.prog 90 = some [Value.nilFunc] := by kernel_rfl
theorem sz_91 : szOf Tryd.prog 91 = some 2 := by kernel_rfl
theorem ag_91 : aggOf Tryd.prog 91 = some true := by kernel_rfl
theorem ar_91 : arrOf Tryd.prog 91 = some (2, 4) := by kernel_rfl
theorem by_91 : byOf Tryd.prog 91 = some 2 := by kernel_rfl
theorem pl_91 : plOf Tryd.prog 91 = some (PL.arr 1) := by kernel_rfl
theorem ze_91 : zeroOf Tryd.prog 91 = some [Value.bool false, Value.bool false] := by kernel_rfl
theorem un_91 : Tryd.prog.underlying 91 = some (TypeDesc.array 2 4) := by kernel_rfl
theorem sz_92 : szOf Tryd.prog 92 = some 2 := by kernel_rfl
theorem ag_92 : aggOf Tryd.prog 92 = some true := by kernel_rfl
theorem ar_92 : arrOf Tryd.prog 92 = some (2, 3) := by kernel_rfl
theorem by_92 : byOf Tryd.prog 92 = some 16 := by kernel_rfl
theorem pl_92 : plOf Tryd.prog 92 = some (PL.arr 1) := by kernel_rfl
theorem ze_92 : zeroOf Tryd.prog 92 = some [Value.int IntKind.i64 0, Value.int IntKind.i64 0] := by kernel_rfl
theorem un_92 : Tryd.prog.underlying 92 = some (TypeDesc.array 2 3) := by kernel_rfl
theorem sz_93 : szOf Tryd.prog 93 = some 1 := by kernel_rfl
theorem ag_93 : aggOf Tryd.prog 93 = some false := by kernel_rfl
theorem by_93 : byOf Tryd.prog 93 = some 8 := by kernel_rfl
theorem ze_93 : zeroOf Tryd.prog 93 = some [Value.nilFunc] := by kernel_rfl
theorem sz_94 : szOf Tryd.prog 94 = some 1 := by kernel_rfl
theorem ag_94 : aggOf Tryd.prog 94 = some false := by kernel_rfl
theorem by_94 : byOf Tryd.prog 94 = some 8 := by kernel_rfl
theorem ze_94 : zeroOf Tryd.prog 94 = some [Value.nilFunc] := by kernel_rfl
theorem sz_95 : szOf Tryd.prog 95 = some 4 := by kernel_rfl
theorem ag_95 : aggOf Tryd.prog 95 = some true := by kernel_rfl
theorem by_95 : byOf Tryd.prog 95 = some 40 := by kernel_rfl
theorem pl_95 : plOf Tryd.prog 95 = some (PL.str [(0, 1), (1, 1), (2, 1), (3, 1)]) := by kernel_rfl
theorem ze_95 : zeroOf Tryd.prog 95 = some [Value.pointer none, Value.pointer none, Value.pointer none, Value.string { data := { toList := [] } }] := by kernel_rfl
theorem fl_95_0 : fldOf Tryd.prog 95 0 = some (0, 17, 1) := by kernel_rfl
theorem fl_95_1 : fldOf Tryd.prog 95 1 = some (1, 17, 1) := by kernel_rfl
theorem fl_95_2 : fldOf Tryd.prog 95 2 = some (2, 17, 1) := by kernel_rfl
theorem fl_95_3 : fldOf Tryd.prog 95 3 = some (3, 9, 1) := by kernel_rfl
theorem sz_96 : szOf Tryd.prog 96 = some 4 := by kernel_rfl
theorem ag_96 : aggOf Tryd.prog 96 = some true := by kernel_rfl
theorem by_96 : byOf Tryd.prog 96 = some 40 := by kernel_rfl
theorem pl_96 : plOf Tryd.prog 96 = some (PL.str [(0, 1), (1, 1), (2, 1), (3, 1)]) := by kernel_rfl
theorem ze_96 : zeroOf Tryd.prog 96 = some [Value.pointer none, Value.pointer none, Value.pointer none, Value.string { data := { toList := [] } }] := by kernel_rfl
theorem fl_96_0 : fldOf Tryd.prog 96 0 = some (0, 17, 1) := by kernel_rfl
theorem fl_96_1 : fldOf Tryd.prog 96 1 = some (1, 17, 1) := by kernel_rfl
theorem fl_96_2 : fldOf Tryd.prog 96 2 = some (2, 17, 1) := by kernel_rfl
theorem fl_96_3 : fldOf Tryd.prog 96 3 = some (3, 9, 1) := by kernel_rfl
theorem sz_97 : szOf Tryd.prog 97 = some 0 := by kernel_rfl
theorem ag_97 : aggOf Tryd.prog 97 = some true := by kernel_rfl
theorem ar_97 : arrOf Tryd.prog 97 = some (0, 16) := by kernel_rfl
theorem by_97 : byOf Tryd.prog 97 = some 0 := by kernel_rfl
theorem pl_97 : plOf Tryd.prog 97 = some (PL.arr 1) := by kernel_rfl
theorem ze_97 : zeroOf Tryd.prog 97 = some [] := by kernel_rfl
theorem un_97 : Tryd.prog.underlying 97 = some (TypeDesc.array 0 16) := by kernel_rfl
theorem sz_98 : szOf Tryd.prog 98 = some 0 := by kernel_rfl
theorem ag_98 : aggOf Tryd.prog 98 = some true := by kernel_rfl
theorem by_98 : byOf Tryd.prog 98 = some 0 := by kernel_rfl
theorem pl_98 : plOf Tryd.prog 98 = some (PL.str [(0, 0)]) := by kernel_rfl
theorem ze_98 : zeroOf Tryd.prog 98 = some [] := by kernel_rfl
theorem sz_99 : szOf Tryd.prog 99 = some 0 := by kernel_rfl
theorem ag_99 : aggOf Tryd.prog 99 = some true := by kernel_rfl
theorem by_99 : byOf Tryd.prog 99 = some 0 := by kernel_rfl
theorem pl_99 : plOf Tryd.prog 99 = some (PL.str [(0, 0)]) := by kernel_rfl
theorem ze_99 : zeroOf Tryd.prog 99 = some [] := by kernel_rfl
theorem sz_100 : szOf Tryd.prog 100 = some 1 := by kernel_rfl
theorem ag_100 : aggOf Tryd.prog 100 = some false := by kernel_rfl
theorem by_100 : byOf Tryd.prog 100 = some 4 := by kernel_rfl
theorem ze_100 : zeroOf Tryd.prog 100 = some [Value.int IntKind.u32 0] := by kernel_rfl
theorem un_100 : Tryd.prog.underlying 100 = some (TypeDesc.int IntKind.u32) := by kernel_rfl
theorem sz_101 : szOf Tryd.prog 101 = some 1 := by kernel_rfl
theorem ag_101 : aggOf Tryd.prog 101 = some false := by kernel_rfl
theorem by_101 : byOf Tryd.prog 101 = some 1 := by kernel_rfl
theorem ze_101 : zeroOf Tryd.prog 101 = some [Value.int IntKind.u8 0] := by kernel_rfl
theorem un_101 : Tryd.prog.underlying 101 = some (TypeDesc.int IntKind.u8) := by kernel_rfl
theorem sz_102 : szOf Tryd.prog 102 = some 1 := by kernel_rfl
theorem ag_102 : aggOf Tryd.prog 102 = some false := by kernel_rfl
theorem by_102 : byOf Tryd.prog 102 = some 1 := by kernel_rfl
theorem ze_102 : zeroOf Tryd.prog 102 = some [Value.int IntKind.u8 0] := by kernel_rfl
theorem un_102 : Tryd.prog.underlying 102 = some (TypeDesc.int IntKind.u8) := by kernel_rfl
theorem sz_103 : szOf Tryd.prog 103 = some 1 := by kernel_rfl
theorem ag_103 : aggOf Tryd.prog 103 = some false := by kernel_rfl
theorem by_103 : byOf Tryd.prog 103 = some 8 := by kernel_rfl
theorem ze_103 : zeroOf Tryd.prog 103 = some [Value.nilFunc] := by kernel_rfl
theorem sz_104 : szOf Tryd.prog 104 = some 1 := by kernel_rfl
theorem ag_104 : aggOf Tryd.prog 104 = some false := by kernel_rfl
theorem by_104 : byOf Tryd.prog 104 = some 8 := by kernel_rfl
theorem ze_104 : zeroOf Tryd.prog 104 = some [Value.pointer none] := by kernel_rfl
theorem un_104 : Tryd.prog.underlying 104 = some (TypeDesc.pointer 5) := by kernel_rfl
theorem sz_105 : szOf Tryd.prog 105 = some 1 := by kernel_rfl
theorem ag_105 : aggOf Tryd.prog 105 = some false := by kernel_rfl
theorem by_105 : byOf Tryd.prog 105 = some 4 := by kernel_rfl
theorem ze_105 : zeroOf Tryd.prog 105 = some [Value.int IntKind.i32 0] := by kernel_rfl
theorem un_105 : Tryd.prog.underlying 105 = some (TypeDesc.int IntKind.i32) := by kernel_rfl
theorem sz_106 : szOf Tryd.prog 106 = some 1 := by kernel_rfl
theorem ag_106 : aggOf Tryd.prog 106 = some false := by kernel_rfl
theorem by_106 : byOf Tryd.prog 106 = some 4 := by kernel_rfl
theorem ze_106 : zeroOf Tryd.prog 106 = some [Value.int IntKind.i32 0] := by kernel_rfl
theorem un_106 : Tryd.prog.underlying 106 = some (TypeDesc.int IntKind.i32) := by kernel_rfl
theorem sz_107 : szOf Tryd.prog 107 = some 11 := by kernel_rfl
theorem ag_107 : aggOf Tryd.prog 107 = some true := by kernel_rfl
theorem by_107 : byOf Tryd.prog 107 = some 48 := by kernel_rfl
theorem pl_107 : plOf Tryd.prog 107 = some (PL.str [(0, 1), (1, 1), (2, 1), (3, 1), (4, 1), (5, 1), (6, 1), (7, 1), (8, 1), (9, 1), (10, 1)]) := by kernel_rfl
theorem ze_107 : zeroOf Tryd.prog 107 = some [Value.int IntKind.u64 0, Value.int IntKind.u64 0, Value.int IntKind.u32 0, Value.int IntKind.u8 0, Value.int IntKind.u8 0, Value.int IntKind.u8 0, Value.int IntKind.u8 0, Value.nilFunc, Value.pointer none, Value.int IntKind.i32 0, Value.int IntKind.i32 0] := by kernel_rfl
theorem fl_107_0 : fldOf Tryd.prog 107 0 = some (0, 12, 1) := by kernel_rfl
theorem fl_107_1 : fldOf Tryd.prog 107 1 = some (1, 12, 1) := by kernel_rfl
theorem fl_107_2 : fldOf Tryd.prog 107 2 = some (2, 100, 1) := by kernel_rfl
theorem fl_107_3 : fldOf Tryd.prog 107 3 = some (3, 101, 1) := by kernel_rfl
theorem fl_107_4 : fldOf Tryd.prog 107 4 = some (4, 5, 1) := by kernel_rfl
theorem fl_107_5 : fldOf Tryd.prog 107 5 = some (5, 5, 1) := by kernel_rfl
theorem fl_107_6 : fldOf Tryd.prog 107 6 = some (6, 102, 1) := by kernel_rfl
theorem fl_107_7 : fldOf Tryd.prog 107 7 = some (7, 103, 1) := by kernel_rfl
theorem fl_107_8 : fldOf Tryd.prog 107 8 = some (8, 104, 1) := by kernel_rfl
theorem fl_107_9 : fldOf Tryd.prog 107 9 = some (9, 105, 1) := by kernel_rfl
theorem fl_107_10 : fldOf Tryd.prog 107 10 = some (10, 106, 1) := by kernel_rfl
theorem sz_108 : szOf Tryd.prog 108 = some 11 := by kernel_rfl
theorem ag_108 : aggOf Tryd.prog 108 = some true := by kernel_rfl
theorem by_108 : byOf Tryd.prog 108 = some 48 := by kernel_rfl
theorem pl_108 : plOf Tryd.prog 108 = some (PL.str [(0, 1), (1, 1), (2, 1), (3, 1), (4, 1), (5, 1), (6, 1), (7, 1), (8, 1), (9, 1), (10, 1)]) := by kernel_rfl
theorem ze_108 : zeroOf Tryd.prog 108 = some [Value.int IntKind.u64 0, Value.int IntKind.u64 0, Value.int IntKind.u32 0, Value.int IntKind.u8 0, Value.int IntKind.u8 0, Value.int IntKind.u8 0, Value.int IntKind.u8 0, Value.nilFunc, Value.pointer none, Value.int IntKind.i32 0, Value.int IntKind.i32 0] := by kernel_rfl
theorem fl_108_0 : fldOf Tryd.prog 108 0 = some (0, 12, 1) := by kernel_rfl
theorem fl_108_1 : fldOf Tryd.prog 108 1 = some (1, 12, 1) := by kernel_rfl
theorem fl_108_2 : fldOf Tryd.prog 108 2 = some (2, 100, 1) := by kernel_rfl
theorem fl_108_3 : fldOf Tryd.prog 108 3 = some (3, 101, 1) := by kernel_rfl
theorem fl_108_4 : fldOf Tryd.prog 108 4 = some (4, 5, 1) := by kernel_rfl
theorem fl_108_5 : fldOf Tryd.prog 108 5 = some (5, 5, 1) := by kernel_rfl
theorem fl_108_6 : fldOf Tryd.prog 108 6 = some (6, 102, 1) := by kernel_rfl
theorem fl_108_7 : fldOf Tryd.prog 108 7 = some (7, 103, 1) := by kernel_rfl
theorem fl_108_8 : fldOf Tryd.prog 108 8 = some (8, 104, 1) := by kernel_rfl
theorem fl_108_9 : fldOf Tryd.prog 108 9 = some (9, 105, 1) := by kernel_rfl
theorem fl_108_10 : fldOf Tryd.prog 108 10 = some (10, 106, 1) := by kernel_rfl
theorem sz_109 : szOf Tryd.prog 109 = some 1 := by kernel_rfl
theorem ag_109 : aggOf Tryd.prog 109 = some false := by kernel_rfl
theorem by_109 : byOf Tryd.prog 109 = some 8 := by kernel_rfl
theorem ze_109 : zeroOf Tryd.prog 109 = some [Value.pointer none] := by kernel_rfl
theorem un_109 : Tryd.prog.underlying 109 = some TypeDesc.unsafePointer := by kernel_rfl
theorem pf_2 : plainFn Tryd.prog 2 = true := by kernel_rfl
theorem pf_3 : plainFn Tryd.prog 3 = true := by kernel_rfl
theorem pf_4 : plainFn Tryd.prog 4 = true := by kernel_rfl
theorem pf_5 : plainFn Tryd.prog 5 = true := by kernel_rfl
theorem pf_6 : plainFn Tryd.prog 6 = true := by kernel_rfl
theorem pf_7 : plainFn Tryd.prog 7 = true := by kernel_rfl
theorem pf_8 : plainFn Tryd.prog 8 = true := by kernel_rfl
theorem pf_9 : plainFn Tryd.prog 9 = true := by kernel_rfl
theorem pf_10 : plainFn Tryd.prog 10 = true := by kernel_rfl
theorem pf_11 : plainFn Tryd.prog 11 = true := by kernel_rfl
theorem pf_12 : plainFn Tryd.prog 12 = true := by kernel_rfl
theorem pf_13 : plainFn Tryd.prog 13 = true := by kernel_rfl
theorem pf_14 : plainFn Tryd.prog 14 = true := by kernel_rfl
theorem pf_15 : plainFn Tryd.prog 15 = true := by kernel_rfl
theorem pf_16 : plainFn Tryd.prog 16 = true := by kernel_rfl
theorem pf_17 : plainFn Tryd.prog 17 = true := by kernel_rfl
theorem pf_18 : plainFn Tryd.prog 18 = true := by kernel_rfl
theorem pf_19 : plainFn Tryd.prog 19 = true := by kernel_rfl
theorem pf_20 : plainFn Tryd.prog 20 = true := by kernel_rfl
theorem pf_21 : plainFn Tryd.prog 21 = true := by kernel_rfl
theorem pf_22 : plainFn Tryd.prog 22 = true := by kernel_rfl
theorem pf_23 : plainFn Tryd.prog 23 = true := by kernel_rfl
theorem pf_24 : plainFn Tryd.prog 24 = true := by kernel_rfl
theorem pf_25 : plainFn Tryd.prog 25 = true := by kernel_rfl
theorem pf_26 : plainFn Tryd.prog 26 = true := by kernel_rfl
theorem pf_27 : plainFn Tryd.prog 27 = true := by kernel_rfl
theorem pf_28 : plainFn Tryd.prog 28 = true := by kernel_rfl
theorem pf_29 : plainFn Tryd.prog 29 = true := by kernel_rfl
theorem pf_30 : plainFn Tryd.prog 30 = true := by kernel_rfl
theorem pf_31 : plainFn Tryd.prog 31 = true := by kernel_rfl
theorem pf_32 : plainFn Tryd.prog 32 = true := by kernel_rfl
theorem pf_33 : plainFn Tryd.prog 33 = true := by kernel_rfl
theorem pf_34 : plainFn Tryd.prog 34 = true := by kernel_rfl
theorem pf_35 : plainFn Tryd.prog 35 = true := by kernel_rfl
theorem pf_36 : plainFn Tryd.prog 36 = true := by kernel_rfl
theorem pf_37 : plainFn Tryd.prog 37 = true := by kernel_rfl
theorem pf_38 : plainFn Tryd.prog 38 = true := by kernel_rfl
theorem pf_39 : plainFn Tryd.prog 39 = true := by kernel_rfl
theorem pf_40 : plainFn Tryd.prog 40 = true := by kernel_rfl
theorem pf_41 : plainFn Tryd.prog 41 = true := by kernel_rfl
theorem pf_42 : plainFn Tryd.prog 42 = true := by kernel_rfl
theorem pf_43 : plainFn Tryd.prog 43 = true := by kernel_rfl
theorem pf_44 : plainFn Tryd.prog 44 = true := by kernel_rfl
theorem pf_45 : plainFn Tryd.prog 45 = true := by kernel_rfl
theorem pf_46 : plainFn Tryd.prog 46 = true := by kernel_rfl
theorem pf_47 : plainFn Tryd.prog 47 = true := by kernel_rfl
theorem pf_48 : plainFn Tryd.prog 48 = true := by kernel_rfl
theorem pf_49 : plainFn Tryd.prog 49 = true := by kernel_rfl
theorem pf_50 : plainFn Tryd.prog 50 = true := by kernel_rfl
theorem pf_51 : plainFn Tryd.prog 51 = true := by kernel_rfl
theorem pf_52 : plainFn Tryd.prog 52 = true := by kernel_rfl
theorem pf_53 : plainFn Tryd.prog 53 = true := by kernel_rfl
theorem pf_54 : plainFn Tryd.prog 54 = true := by kernel_rfl
theorem pf_55 : plainFn Tryd.prog 55 = true := by kernel_rfl
theorem pf_56 : plainFn Tryd.prog 56 = true := by kernel_rfl
theorem pf_57 : plainFn Tryd.prog 57 = true := by kernel_rfl
theorem pf_58 : plainFn Tryd.prog 58 = true := by kernel_rfl
theorem pf_59 : plainFn Tryd.prog 59 = true := by kernel_rfl
theorem pf_60 : plainFn Tryd.prog 60 = true := by kernel_rfl
theorem pf_61 : plainFn Tryd.prog 61 = true := by kernel_rfl
theorem pf_62 : plainFn Tryd.prog 62 = true := by kernel_rfl
theorem pf_63 : plainFn Tryd.prog 63 = true := by kernel_rfl
theorem pf_64 : plainFn Tryd.prog 64 = true := by kernel_rfl
theorem pf_65 : plainFn Tryd.prog 65 = true := by kernel_rfl
theorem pf_66 : plainFn Tryd.prog 66 = true := by kernel_rfl
theorem pf_67 : plainFn Tryd.prog 67 = true := by kernel_rfl
theorem pf_68 : plainFn Tryd.prog 68 = true := by kernel_rfl
theorem pf_69 : plainFn Tryd.prog 69 = true := by kernel_rfl
theorem pf_70 : plainFn Tryd.prog 70 = true := by kernel_rfl
theorem pf_71 : plainFn Tryd.prog 71 = true := by kernel_rfl
theorem pf_72 : plainFn Tryd.prog 72 = true := by kernel_rfl
theorem pf_73 : plainFn Tryd.prog 73 = true := by kernel_rfl
theorem pf_94 : plainFn Tryd.prog 94 = true := by kernel_rfl
theorem mixed : Tryd.prog.follows .mixedOrders = true := by kernel_rfl
attribute [go_sem] sz_0 ag_0 by_0 ze_0 un_0 sz_1 ag_1 by_1 ze_1 sz_2 ag_2 by_2 ze_2 un_2 sz_3 ag_3 by_3 ze_3 un_3 sz_4 ag_4 by_4 ze_4 un_4 sz_5 ag_5 by_5 ze_5 un_5 sz_6 ag_6 by_6 ze_6 un_6 sz_7 ag_7 by_7 pl_7 ze_7 eq_7 fl_7_0 fl_7_1 fl_7_2 fl_7_3 sz_8 ag_8 by_8 pl_8 ze_8 eq_8 fl_8_0 fl_8_1 fl_8_2 fl_8_3 sz_9 ag_9 by_9 ze_9 un_9 sz_10 ag_10 by_10 ze_10 un_10 sz_11 ag_11 by_11 ze_11 un_11 sz_12 ag_12 by_12 ze_12 un_12 sz_13 ag_13 by_13 pl_13 ze_13 fl_13_0 fl_13_1 sz_14 ag_14 by_14 pl_14 ze_14 fl_14_0 fl_14_1 sz_15 ag_15 by_15 ze_15 un_15 sz_16 ag_16 by_16 ze_16 un_16 sz_17 ag_17 by_17 ze_17 un_17 sz_18 ag_18 by_18 pl_18 ze_18 fl_18_0 sz_19 ag_19 by_19 pl_19 ze_19 fl_19_0 sz_20 ag_20 by_20 ze_20 un_20 sz_21 ag_21 by_21 ze_21 un_21 sz_22 ag_22 ar_22 by_22 pl_22 ze_22 un_22 sz_23 ag_23 sl_23 by_23 ze_23 un_23 sz_24 ag_24 by_24 pl_24 ze_24 fl_24_0 fl_24_1 sz_25 ag_25 by_25 pl_25 ze_25 fl_25_0 fl_25_1 sz_26 ag_26 by_26 ze_26 sz_27 ag_27 by_27 ze_27 sz_28 ag_28 by_28 pl_28 ze_28 eq_28 fl_28_0 fl_28_1 fl_28_2 fl_28_3 fl_28_4 fl_28_5 fl_28_6 fl_28_7 fl_28_8 fl_28_9 sz_29 ag_29 by_29 pl_29 ze_29 eq_29 fl_29_0 fl_29_1 fl_29_2 fl_29_3 fl_29_4 fl_29_5 fl_29_6 fl_29_7 fl_29_8 fl_29_9 sz_30 ag_30 by_30 ze_30 un_30 sz_31 ag_31 by_31 ze_31 un_31 sz_32 ag_32 by_32 ze_32 sz_33 ag_33 by_33 ze_33 sz_34 ag_34 by_34 ze_34 sz_35 ag_35 by_35 ze_35 sz_36 ag_36 ar_36 by_36 pl_36 ze_36 un_36 sz_37 ag_37 by_37 ze_37 sz_38 ag_38 by_38 ze_38 sz_39 ag_39 by_39 ze_39 sz_40 ag_40 ar_40 by_40 pl_40 ze_40 un_40 sz_41 ag_41 sl_41 by_41 ze_41 un_41 sz_42 ag_42 ar_42 by_42 pl_42 ze_42 un_42 sz_43 ag_43 by_43 pl_43 fl_43_0 fl_43_1 sz_44 ag_44 by_44 pl_44 fl_44_0 fl_44_1 sz_45 ag_45 by_45 ze_45 sz_46 ag_46 by_46 ze_46 sz_47 ag_47 by_47 ze_47 sz_48 ag_48 by_48 ze_48 sz_49 ag_49 by_49 ze_49 un_49 sz_50 ag_50 by_50 ze_50 sz_51 ag_51 by_51 ze_51 un_51 sz_52 ag_52 by_52 ze_52 sz_53 ag_53 by_53 ze_53 sz_54 ag_54 by_54 ze_54 sz_55 ag_55 by_55 pl_55 ze_55 eq_55 fl_55_0 fl_55_1 fl_55_2 fl_55_3 fl_55_4 fl_55_5 sz_56 ag_56 by_56 pl_56 ze_56 eq_56 fl_56_0 fl_56_1 fl_56_2 fl_56_3 fl_56_4 fl_56_5 sz_57 ag_57 by_57 ze_57 sz_58 ag_58 by_58 ze_58 sz_59 ag_59 by_59 ze_59 sz_60 ag_60 by_60 ze_60 sz_61 ag_61 by_61 ze_61 un_61 sz_62 ag_62 by_62 ze_62 sz_63 ag_63 by_63 ze_63 sz_64 ag_64 by_64 ze_64 sz_65 ag_65 sl_65 by_65 ze_65 un_65 sz_66 ag_66 by_66 ze_66 sz_67 ag_67 by_67 ze_67 un_67 sz_68 ag_68 by_68 ze_68 un_68 sz_69 ag_69 by_69 pl_69 ze_69 fl_69_0 fl_69_1 sz_70 ag_70 by_70 pl_70 ze_70 fl_70_0 fl_70_1 sz_71 ag_71 by_71 ze_71 un_71 sz_72 ag_72 by_72 ze_72 sz_73 ag_73 by_73 ze_73 un_73 sz_74 ag_74 by_74 ze_74 sz_75 ag_75 by_75 ze_75 sz_76 ag_76 ar_76 by_76 pl_76 ze_76 un_76 sz_77 ag_77 by_77 ze_77 sz_78 ag_78 by_78 ze_78 sz_79 ag_79 by_79 ze_79 sz_80 ag_80 ar_80 by_80 pl_80 ze_80 un_80 sz_81 ag_81 by_81 pl_81 ze_81 fl_81_0 fl_81_1 sz_82 ag_82 ar_82 by_82 pl_82 ze_82 un_82 sz_83 ag_83 by_83 ze_83 sz_84 ag_84 by_84 ze_84 un_84 sz_85 ag_85 by_85 ze_85 sz_86 ag_86 by_86 ze_86 un_86 sz_87 ag_87 by_87 ze_87 sz_88 ag_88 by_88 ze_88 sz_89 ag_89 by_89 ze_89 sz_90 ag_90 by_90 ze_90 sz_91 ag_91 ar_91 by_91 pl_91 ze_91 un_91 sz_92 ag_92 ar_92 by_92 pl_92 ze_92 un_92 sz_93 ag_93 by_93 ze_93 sz_94 ag_94 by_94 ze_94 sz_95 ag_95 by_95 pl_95 ze_95 fl_95_0 fl_95_1 fl_95_2 fl_95_3 sz_96 ag_96 by_96 pl_96 ze_96 fl_96_0 fl_96_1 fl_96_2 fl_96_3 sz_97 ag_97 ar_97 by_97 pl_97 ze_97 un_97 sz_98 ag_98 by_98 pl_98 ze_98 sz_99 ag_99 by_99 pl_99 ze_99 sz_100 ag_100 by_100 ze_100 un_100 sz_101 ag_101 by_101 ze_101 un_101 sz_102 ag_102 by_102 ze_102 un_102 sz_103 ag_103 by_103 ze_103 sz_104 ag_104 by_104 ze_104 un_104 sz_105 ag_105 by_105 ze_105 un_105 sz_106 ag_106 by_106 ze_106 un_106 sz_107 ag_107 by_107 pl_107 ze_107 fl_107_0 fl_107_1 fl_107_2 fl_107_3 fl_107_4 fl_107_5 fl_107_6 fl_107_7 fl_107_8 fl_107_9 fl_107_10 sz_108 ag_108 by_108 pl_108 ze_108 fl_108_0 fl_108_1 fl_108_2 fl_108_3 fl_108_4 fl_108_5 fl_108_6 fl_108_7 fl_108_8 fl_108_9 fl_108_10 sz_109 ag_109 by_109 ze_109 un_109 pf_2 pf_3 pf_4 pf_5 pf_6 pf_7 pf_8 pf_9 pf_10 pf_11 pf_12 pf_13 pf_14 pf_15 pf_16 pf_17 pf_18 pf_19 pf_20 pf_21 pf_22 pf_23 pf_24 pf_25 pf_26 pf_27 pf_28 pf_29 pf_30 pf_31 pf_32 pf_33 pf_34 pf_35 pf_36 pf_37 pf_38 pf_39 pf_40 pf_41 pf_42 pf_43 pf_44 pf_45 pf_46 pf_47 pf_48 pf_49 pf_50 pf_51 pf_52 pf_53 pf_54 pf_55 pf_56 pf_57 pf_58 pf_59 pf_60 pf_61 pf_62 pf_63 pf_64 pf_65 pf_66 pf_67 pf_68 pf_69 pf_70 pf_71 pf_72 pf_73 pf_94
end Pm
end Go.Proofs.YthflneagfnpfkaaDoor
