/- What PM asks of the program's types: one fact each. Printed by types.py. -/
import Derived.Test.YtiipggfhjkalfaaProg
import Derived.Test.YtiipggfhjkalfaaPmI
import Derived.KernelRfl
open Go Go.Proofs
namespace Go.Proofs.Ytiipggfhjkalfaa
namespace Pm
theorem sz_0 : szOf Try.prog 0 = some 1 := by kernel_rfl
theorem ag_0 : aggOf Try.prog 0 = some false := by kernel_rfl
theorem by_0 : byOf Try.prog 0 = some 0 := by kernel_rfl
theorem ze_0 : zeroOf Try.prog 0 = some [Value.tuple { toList := [] }] := by kernel_rfl
theorem un_0 : Try.prog.underlying 0 = some (TypeDesc.tuple { toList := [] }) := by kernel_rfl
theorem sz_1 : szOf Try.prog 1 = some 1 := by kernel_rfl
theorem ag_1 : aggOf Try.prog 1 = some false := by kernel_rfl
theorem by_1 : byOf Try.prog 1 = some 8 := by kernel_rfl
theorem ze_1 : zeroOf Try.prog 1 = some [Value.nilFunc] := by kernel_rfl
theorem sz_2 : szOf Try.prog 2 = some 1 := by kernel_rfl
theorem ag_2 : aggOf Try.prog 2 = some false := by kernel_rfl
theorem by_2 : byOf Try.prog 2 = some 8 := by kernel_rfl
theorem ze_2 : zeroOf Try.prog 2 = some [Value.int IntKind.i64 0] := by kernel_rfl
theorem un_2 : Try.prog.underlying 2 = some (TypeDesc.int IntKind.i64) := by kernel_rfl
theorem sz_3 : szOf Try.prog 3 = some 1 := by kernel_rfl
theorem ag_3 : aggOf Try.prog 3 = some false := by kernel_rfl
theorem by_3 : byOf Try.prog 3 = some 8 := by kernel_rfl
theorem ze_3 : zeroOf Try.prog 3 = some [Value.int IntKind.i64 0] := by kernel_rfl
theorem un_3 : Try.prog.underlying 3 = some (TypeDesc.int IntKind.i64) := by kernel_rfl
theorem sz_4 : szOf Try.prog 4 = some 1 := by kernel_rfl
theorem ag_4 : aggOf Try.prog 4 = some false := by kernel_rfl
theorem by_4 : byOf Try.prog 4 = some 1 := by kernel_rfl
theorem ze_4 : zeroOf Try.prog 4 = some [Value.bool false] := by kernel_rfl
theorem un_4 : Try.prog.underlying 4 = some TypeDesc.bool := by kernel_rfl
theorem sz_5 : szOf Try.prog 5 = some 1 := by kernel_rfl
theorem ag_5 : aggOf Try.prog 5 = some false := by kernel_rfl
theorem by_5 : byOf Try.prog 5 = some 1 := by kernel_rfl
theorem ze_5 : zeroOf Try.prog 5 = some [Value.int IntKind.u8 0] := by kernel_rfl
theorem un_5 : Try.prog.underlying 5 = some (TypeDesc.int IntKind.u8) := by kernel_rfl
theorem sz_6 : szOf Try.prog 6 = some 1 := by kernel_rfl
theorem ag_6 : aggOf Try.prog 6 = some false := by kernel_rfl
theorem by_6 : byOf Try.prog 6 = some 1 := by kernel_rfl
theorem ze_6 : zeroOf Try.prog 6 = some [Value.int IntKind.u8 0] := by kernel_rfl
theorem un_6 : Try.prog.underlying 6 = some (TypeDesc.int IntKind.u8) := by kernel_rfl
theorem sz_7 : szOf Try.prog 7 = some 4 := by kernel_rfl
theorem ag_7 : aggOf Try.prog 7 = some true := by kernel_rfl
theorem by_7 : byOf Try.prog 7 = some 24 := by kernel_rfl
theorem pl_7 : plOf Try.prog 7 = some (PL.str [(0, 1), (1, 1), (2, 1), (3, 1)]) := by kernel_rfl
theorem ze_7 : zeroOf Try.prog 7 = some [Value.int IntKind.i64 0, Value.int IntKind.i64 0, Value.bool false, Value.int IntKind.u8 0] := by kernel_rfl
theorem eq_7 : eqOf Try.prog 7 = some [(0, false), (1, false), (2, true), (3, false)] := by kernel_rfl
theorem fl_7_0 : fldOf Try.prog 7 0 = some (0, 2, 1) := by kernel_rfl
theorem fl_7_1 : fldOf Try.prog 7 1 = some (1, 3, 1) := by kernel_rfl
theorem fl_7_2 : fldOf Try.prog 7 2 = some (2, 4, 1) := by kernel_rfl
theorem fl_7_3 : fldOf Try.prog 7 3 = some (3, 6, 1) := by kernel_rfl
theorem sz_8 : szOf Try.prog 8 = some 4 := by kernel_rfl
theorem ag_8 : aggOf Try.prog 8 = some true := by kernel_rfl
theorem by_8 : byOf Try.prog 8 = some 24 := by kernel_rfl
theorem pl_8 : plOf Try.prog 8 = some (PL.str [(0, 1), (1, 1), (2, 1), (3, 1)]) := by kernel_rfl
theorem ze_8 : zeroOf Try.prog 8 = some [Value.int IntKind.i64 0, Value.int IntKind.i64 0, Value.bool false, Value.int IntKind.u8 0] := by kernel_rfl
theorem eq_8 : eqOf Try.prog 8 = some [(0, false), (1, false), (2, true), (3, false)] := by kernel_rfl
theorem fl_8_0 : fldOf Try.prog 8 0 = some (0, 2, 1) := by kernel_rfl
theorem fl_8_1 : fldOf Try.prog 8 1 = some (1, 3, 1) := by kernel_rfl
theorem fl_8_2 : fldOf Try.prog 8 2 = some (2, 4, 1) := by kernel_rfl
theorem fl_8_3 : fldOf Try.prog 8 3 = some (3, 6, 1) := by kernel_rfl
theorem sz_9 : szOf Try.prog 9 = some 1 := by kernel_rfl
theorem ag_9 : aggOf Try.prog 9 = some false := by kernel_rfl
theorem by_9 : byOf Try.prog 9 = some 16 := by kernel_rfl
theorem ze_9 : zeroOf Try.prog 9 = some [Value.string { data := { toList := [] } }] := by kernel_rfl
theorem un_9 : Try.prog.underlying 9 = some TypeDesc.string := by kernel_rfl
theorem sz_10 : szOf Try.prog 10 = some 1 := by kernel_rfl
theorem ag_10 : aggOf Try.prog 10 = some false := by kernel_rfl
theorem by_10 : byOf Try.prog 10 = some 16 := by kernel_rfl
theorem ze_10 : zeroOf Try.prog 10 = some [Value.string { data := { toList := [] } }] := by kernel_rfl
theorem un_10 : Try.prog.underlying 10 = some TypeDesc.string := by kernel_rfl
theorem sz_11 : szOf Try.prog 11 = some 1 := by kernel_rfl
theorem ag_11 : aggOf Try.prog 11 = some false := by kernel_rfl
theorem by_11 : byOf Try.prog 11 = some 16 := by kernel_rfl
theorem ze_11 : zeroOf Try.prog 11 = some [Value.string { data := { toList := [] } }] := by kernel_rfl
theorem un_11 : Try.prog.underlying 11 = some TypeDesc.string := by kernel_rfl
theorem sz_12 : szOf Try.prog 12 = some 1 := by kernel_rfl
theorem ag_12 : aggOf Try.prog 12 = some false := by kernel_rfl
theorem by_12 : byOf Try.prog 12 = some 8 := by kernel_rfl
theorem ze_12 : zeroOf Try.prog 12 = some [Value.int IntKind.u64 0] := by kernel_rfl
theorem un_12 : Try.prog.underlying 12 = some (TypeDesc.int IntKind.u64) := by kernel_rfl
theorem sz_13 : szOf Try.prog 13 = some 2 := by kernel_rfl
theorem ag_13 : aggOf Try.prog 13 = some true := by kernel_rfl
theorem by_13 : byOf Try.prog 13 = some 24 := by kernel_rfl
theorem pl_13 : plOf Try.prog 13 = some (PL.str [(0, 1), (1, 1)]) := by kernel_rfl
theorem ze_13 : zeroOf Try.prog 13 = some [Value.string { data := { toList := [] } }, Value.int IntKind.u64 0] := by kernel_rfl
theorem fl_13_0 : fldOf Try.prog 13 0 = some (0, 9, 1) := by kernel_rfl
theorem fl_13_1 : fldOf Try.prog 13 1 = some (1, 12, 1) := by kernel_rfl
theorem sz_14 : szOf Try.prog 14 = some 2 := by kernel_rfl
theorem ag_14 : aggOf Try.prog 14 = some true := by kernel_rfl
theorem by_14 : byOf Try.prog 14 = some 24 := by kernel_rfl
theorem pl_14 : plOf Try.prog 14 = some (PL.str [(0, 1), (1, 1)]) := by kernel_rfl
theorem ze_14 : zeroOf Try.prog 14 = some [Value.string { data := { toList := [] } }, Value.int IntKind.u64 0] := by kernel_rfl
theorem fl_14_0 : fldOf Try.prog 14 0 = some (0, 9, 1) := by kernel_rfl
theorem fl_14_1 : fldOf Try.prog 14 1 = some (1, 12, 1) := by kernel_rfl
theorem sz_15 : szOf Try.prog 15 = some 1 := by kernel_rfl
theorem ag_15 : aggOf Try.prog 15 = some false := by kernel_rfl
theorem by_15 : byOf Try.prog 15 = some 8 := by kernel_rfl
theorem ze_15 : zeroOf Try.prog 15 = some [Value.pointer none] := by kernel_rfl
theorem un_15 : Try.prog.underlying 15 = some (TypeDesc.pointer 178) := by kernel_rfl
theorem sz_16 : szOf Try.prog 16 = some 1 := by kernel_rfl
theorem ag_16 : aggOf Try.prog 16 = some false := by kernel_rfl
theorem by_16 : byOf Try.prog 16 = some 8 := by kernel_rfl
theorem ze_16 : zeroOf Try.prog 16 = some [Value.pointer none] := by kernel_rfl
theorem un_16 : Try.prog.underlying 16 = some (TypeDesc.pointer 181) := by kernel_rfl
theorem sz_17 : szOf Try.prog 17 = some 1 := by kernel_rfl
theorem ag_17 : aggOf Try.prog 17 = some false := by kernel_rfl
theorem by_17 : byOf Try.prog 17 = some 8 := by kernel_rfl
theorem ze_17 : zeroOf Try.prog 17 = some [Value.pointer none] := by kernel_rfl
theorem un_17 : Try.prog.underlying 17 = some (TypeDesc.pointer 189) := by kernel_rfl
theorem sz_18 : szOf Try.prog 18 = some 1 := by kernel_rfl
theorem ag_18 : aggOf Try.prog 18 = some true := by kernel_rfl
theorem by_18 : byOf Try.prog 18 = some 8 := by kernel_rfl
theorem pl_18 : plOf Try.prog 18 = some (PL.str [(0, 1)]) := by kernel_rfl
theorem ze_18 : zeroOf Try.prog 18 = some [Value.pointer none] := by kernel_rfl
theorem fl_18_0 : fldOf Try.prog 18 0 = some (0, 17, 1) := by kernel_rfl
theorem sz_19 : szOf Try.prog 19 = some 1 := by kernel_rfl
theorem ag_19 : aggOf Try.prog 19 = some true := by kernel_rfl
theorem by_19 : byOf Try.prog 19 = some 8 := by kernel_rfl
theorem pl_19 : plOf Try.prog 19 = some (PL.str [(0, 1)]) := by kernel_rfl
theorem ze_19 : zeroOf Try.prog 19 = some [Value.pointer none] := by kernel_rfl
theorem fl_19_0 : fldOf Try.prog 19 0 = some (0, 17, 1) := by kernel_rfl
theorem sz_20 : szOf Try.prog 20 = some 1 := by kernel_rfl
theorem ag_20 : aggOf Try.prog 20 = some false := by kernel_rfl
theorem by_20 : byOf Try.prog 20 = some 16 := by kernel_rfl
theorem ze_20 : zeroOf Try.prog 20 = some [Value.nilIface] := by kernel_rfl
theorem un_20 : Try.prog.underlying 20 = some (TypeDesc.interface { toList := [] }) := by kernel_rfl
theorem sz_21 : szOf Try.prog 21 = some 1 := by kernel_rfl
theorem ag_21 : aggOf Try.prog 21 = some false := by kernel_rfl
theorem by_21 : byOf Try.prog 21 = some 4 := by kernel_rfl
theorem ze_21 : zeroOf Try.prog 21 = some [Value.int IntKind.i32 0] := by kernel_rfl
theorem un_21 : Try.prog.underlying 21 = some (TypeDesc.int IntKind.i32) := by kernel_rfl
theorem sz_22 : szOf Try.prog 22 = some 1 := by kernel_rfl
theorem ag_22 : aggOf Try.prog 22 = some false := by kernel_rfl
theorem sl_22 : slOf Try.prog 22 = some 33 := by kernel_rfl
theorem by_22 : byOf Try.prog 22 = some 24 := by kernel_rfl
theorem ze_22 : zeroOf Try.prog 22 = some [Value.slice none 0 0] := by kernel_rfl
theorem un_22 : Try.prog.underlying 22 = some (TypeDesc.slice 33) := by kernel_rfl
theorem sz_23 : szOf Try.prog 23 = some 2 := by kernel_rfl
theorem ag_23 : aggOf Try.prog 23 = some true := by kernel_rfl
theorem by_23 : byOf Try.prog 23 = some 32 := by kernel_rfl
theorem pl_23 : plOf Try.prog 23 = some (PL.str [(0, 1), (1, 1)]) := by kernel_rfl
theorem ze_23 : zeroOf Try.prog 23 = some [Value.int IntKind.i64 0, Value.slice none 0 0] := by kernel_rfl
theorem fl_23_0 : fldOf Try.prog 23 0 = some (0, 3, 1) := by kernel_rfl
theorem fl_23_1 : fldOf Try.prog 23 1 = some (1, 22, 1) := by kernel_rfl
theorem sz_24 : szOf Try.prog 24 = some 2 := by kernel_rfl
theorem ag_24 : aggOf Try.prog 24 = some true := by kernel_rfl
theorem by_24 : byOf Try.prog 24 = some 32 := by kernel_rfl
theorem pl_24 : plOf Try.prog 24 = some (PL.str [(0, 1), (1, 1)]) := by kernel_rfl
theorem ze_24 : zeroOf Try.prog 24 = some [Value.int IntKind.i64 0, Value.slice none 0 0] := by kernel_rfl
theorem fl_24_0 : fldOf Try.prog 24 0 = some (0, 3, 1) := by kernel_rfl
theorem fl_24_1 : fldOf Try.prog 24 1 = some (1, 22, 1) := by kernel_rfl
theorem sz_25 : szOf Try.prog 25 = some 3 := by kernel_rfl
theorem ag_25 : aggOf Try.prog 25 = some true := by kernel_rfl
theorem ar_25 : arrOf Try.prog 25 = some (3, 2) := by kernel_rfl
theorem by_25 : byOf Try.prog 25 = some 24 := by kernel_rfl
theorem pl_25 : plOf Try.prog 25 = some (PL.arr 1) := by kernel_rfl
theorem ze_25 : zeroOf Try.prog 25 = some [Value.int IntKind.i64 0, Value.int IntKind.i64 0, Value.int IntKind.i64 0] := by kernel_rfl
theorem un_25 : Try.prog.underlying 25 = some (TypeDesc.array 3 2) := by kernel_rfl
theorem sz_26 : szOf Try.prog 26 = some 1 := by kernel_rfl
theorem ag_26 : aggOf Try.prog 26 = some false := by kernel_rfl
theorem by_26 : byOf Try.prog 26 = some 8 := by kernel_rfl
theorem ze_26 : zeroOf Try.prog 26 = some [Value.int IntKind.i64 0] := by kernel_rfl
theorem un_26 : Try.prog.underlying 26 = some (TypeDesc.int IntKind.i64) := by kernel_rfl
theorem sz_27 : szOf Try.prog 27 = some 1 := by kernel_rfl
theorem ag_27 : aggOf Try.prog 27 = some false := by kernel_rfl
theorem by_27 : byOf Try.prog 27 = some 0 := by kernel_rfl
theorem ze_27 : zeroOf Try.prog 27 = some [Value.tuple { toList := [Value.agg { toList := [Value.int IntKind.i64 0, Value.slice none 0 0] }, Value.int IntKind.i64 0] }] := by kernel_rfl
theorem un_27 : Try.prog.underlying 27 = some (TypeDesc.tuple { toList := [24, 26] }) := by kernel_rfl
theorem sz_28 : szOf Try.prog 28 = some 1 := by kernel_rfl
theorem ag_28 : aggOf Try.prog 28 = some false := by kernel_rfl
theorem by_28 : byOf Try.prog 28 = some 8 := by kernel_rfl
theorem ze_28 : zeroOf Try.prog 28 = some [Value.nilFunc] := by kernel_rfl
theorem sz_29 : szOf Try.prog 29 = some 1 := by kernel_rfl
theorem ag_29 : aggOf Try.prog 29 = some false := by kernel_rfl
theorem by_29 : byOf Try.prog 29 = some 8 := by kernel_rfl
theorem ze_29 : zeroOf Try.prog 29 = some [Value.nilFunc] := by kernel_rfl
theorem sz_30 : szOf Try.prog 30 = some 1 := by kernel_rfl
theorem ag_30 : aggOf Try.prog 30 = some false := by kernel_rfl
theorem by_30 : byOf Try.prog 30 = some 0 := by kernel_rfl
theorem ze_30 : zeroOf Try.prog 30 = some [Value.tuple { toList := [Value.slice none 0 0, Value.int IntKind.i64 0] }] := by kernel_rfl
theorem un_30 : Try.prog.underlying 30 = some (TypeDesc.tuple { toList := [22, 26] }) := by kernel_rfl
theorem sz_31 : szOf Try.prog 31 = some 1 := by kernel_rfl
theorem ag_31 : aggOf Try.prog 31 = some false := by kernel_rfl
theorem by_31 : byOf Try.prog 31 = some 8 := by kernel_rfl
theorem ze_31 : zeroOf Try.prog 31 = some [Value.nilFunc] := by kernel_rfl
theorem sz_32 : szOf Try.prog 32 = some 3 := by kernel_rfl
theorem ag_32 : aggOf Try.prog 32 = some true := by kernel_rfl
theorem by_32 : byOf Try.prog 32 = some 24 := by kernel_rfl
theorem pl_32 : plOf Try.prog 32 = some (PL.str [(0, 1), (1, 1), (2, 1)]) := by kernel_rfl
theorem ze_32 : zeroOf Try.prog 32 = some [Value.int IntKind.i64 0, Value.int IntKind.i64 0, Value.int IntKind.i64 0] := by kernel_rfl
theorem eq_32 : eqOf Try.prog 32 = some [(0, false), (1, false), (2, false)] := by kernel_rfl
theorem fl_32_0 : fldOf Try.prog 32 0 = some (0, 2, 1) := by kernel_rfl
theorem fl_32_1 : fldOf Try.prog 32 1 = some (1, 2, 1) := by kernel_rfl
theorem fl_32_2 : fldOf Try.prog 32 2 = some (2, 3, 1) := by kernel_rfl
theorem sz_33 : szOf Try.prog 33 = some 3 := by kernel_rfl
theorem ag_33 : aggOf Try.prog 33 = some true := by kernel_rfl
theorem by_33 : byOf Try.prog 33 = some 24 := by kernel_rfl
theorem pl_33 : plOf Try.prog 33 = some (PL.str [(0, 1), (1, 1), (2, 1)]) := by kernel_rfl
theorem ze_33 : zeroOf Try.prog 33 = some [Value.int IntKind.i64 0, Value.int IntKind.i64 0, Value.int IntKind.i64 0] := by kernel_rfl
theorem eq_33 : eqOf Try.prog 33 = some [(0, false), (1, false), (2, false)] := by kernel_rfl
theorem fl_33_0 : fldOf Try.prog 33 0 = some (0, 2, 1) := by kernel_rfl
theorem fl_33_1 : fldOf Try.prog 33 1 = some (1, 2, 1) := by kernel_rfl
theorem fl_33_2 : fldOf Try.prog 33 2 = some (2, 3, 1) := by kernel_rfl
theorem sz_34 : szOf Try.prog 34 = some 1 := by kernel_rfl
theorem ag_34 : aggOf Try.prog 34 = some false := by kernel_rfl
theorem by_34 : byOf Try.prog 34 = some 8 := by kernel_rfl
theorem ze_34 : zeroOf Try.prog 34 = some [Value.int IntKind.u64 0] := by kernel_rfl
theorem un_34 : Try.prog.underlying 34 = some (TypeDesc.int IntKind.u64) := by kernel_rfl
theorem sz_35 : szOf Try.prog 35 = some 1 := by kernel_rfl
theorem ag_35 : aggOf Try.prog 35 = some false := by kernel_rfl
theorem by_35 : byOf Try.prog 35 = some 8 := by kernel_rfl
theorem ze_35 : zeroOf Try.prog 35 = some [Value.nilFunc] := by kernel_rfl
theorem sz_36 : szOf Try.prog 36 = some 10 := by kernel_rfl
theorem ag_36 : aggOf Try.prog 36 = some true := by kernel_rfl
theorem by_36 : byOf Try.prog 36 = some 80 := by kernel_rfl
theorem pl_36 : plOf Try.prog 36 = some (PL.str [(0, 1), (1, 1), (2, 1), (3, 1), (4, 1), (5, 1), (6, 1), (7, 1), (8, 1), (9, 1)]) := by kernel_rfl
theorem ze_36 : zeroOf Try.prog 36 = some [Value.int IntKind.i64 0, Value.int IntKind.i64 0, Value.int IntKind.i64 0, Value.int IntKind.i64 0, Value.int IntKind.i64 0, Value.int IntKind.i64 0, Value.int IntKind.i64 0, Value.int IntKind.i64 0, Value.int IntKind.i64 0, Value.int IntKind.i64 0] := by kernel_rfl
theorem eq_36 : eqOf Try.prog 36 = some [(0, false), (1, false), (2, false), (3, false), (4, false), (5, false), (6, false), (7, false), (8, false), (9, false)] := by kernel_rfl
theorem fl_36_0 : fldOf Try.prog 36 0 = some (0, 3, 1) := by kernel_rfl
theorem fl_36_1 : fldOf Try.prog 36 1 = some (1, 3, 1) := by kernel_rfl
theorem fl_36_2 : fldOf Try.prog 36 2 = some (2, 3, 1) := by kernel_rfl
theorem fl_36_3 : fldOf Try.prog 36 3 = some (3, 3, 1) := by kernel_rfl
theorem fl_36_4 : fldOf Try.prog 36 4 = some (4, 3, 1) := by kernel_rfl
theorem fl_36_5 : fldOf Try.prog 36 5 = some (5, 3, 1) := by kernel_rfl
theorem fl_36_6 : fldOf Try.prog 36 6 = some (6, 3, 1) := by kernel_rfl
theorem fl_36_7 : fldOf Try.prog 36 7 = some (7, 3, 1) := by kernel_rfl
theorem fl_36_8 : fldOf Try.prog 36 8 = some (8, 3, 1) := by kernel_rfl
theorem fl_36_9 : fldOf Try.prog 36 9 = some (9, 3, 1) := by kernel_rfl
theorem sz_37 : szOf Try.prog 37 = some 10 := by kernel_rfl
theorem ag_37 : aggOf Try.prog 37 = some true := by kernel_rfl
theorem by_37 : byOf Try.prog 37 = some 80 := by kernel_rfl
theorem pl_37 : plOf Try.prog 37 = some (PL.str [(0, 1), (1, 1), (2, 1), (3, 1), (4, 1), (5, 1), (6, 1), (7, 1), (8, 1), (9, 1)]) := by kernel_rfl
theorem ze_37 : zeroOf Try.prog 37 = some [Value.int IntKind.i64 0, Value.int IntKind.i64 0, Value.int IntKind.i64 0, Value.int IntKind.i64 0, Value.int IntKind.i64 0, Value.int IntKind.i64 0, Value.int IntKind.i64 0, Value.int IntKind.i64 0, Value.int IntKind.i64 0, Value.int IntKind.i64 0] := by kernel_rfl
theorem eq_37 : eqOf Try.prog 37 = some [(0, false), (1, false), (2, false), (3, false), (4, false), (5, false), (6, false), (7, false), (8, false), (9, false)] := by kernel_rfl
theorem fl_37_0 : fldOf Try.prog 37 0 = some (0, 3, 1) := by kernel_rfl
theorem fl_37_1 : fldOf Try.prog 37 1 = some (1, 3, 1) := by kernel_rfl
theorem fl_37_2 : fldOf Try.prog 37 2 = some (2, 3, 1) := by kernel_rfl
theorem fl_37_3 : fldOf Try.prog 37 3 = some (3, 3, 1) := by kernel_rfl
theorem fl_37_4 : fldOf Try.prog 37 4 = some (4, 3, 1) := by kernel_rfl
theorem fl_37_5 : fldOf Try.prog 37 5 = some (5, 3, 1) := by kernel_rfl
theorem fl_37_6 : fldOf Try.prog 37 6 = some (6, 3, 1) := by kernel_rfl
theorem fl_37_7 : fldOf Try.prog 37 7 = some (7, 3, 1) := by kernel_rfl
theorem fl_37_8 : fldOf Try.prog 37 8 = some (8, 3, 1) := by kernel_rfl
theorem fl_37_9 : fldOf Try.prog 37 9 = some (9, 3, 1) := by kernel_rfl
theorem sz_38 : szOf Try.prog 38 = some 1 := by kernel_rfl
theorem ag_38 : aggOf Try.prog 38 = some false := by kernel_rfl
theorem by_38 : byOf Try.prog 38 = some 0 := by kernel_rfl
theorem ze_38 : zeroOf Try.prog 38 = some [Value.tuple { toList := [Value.agg { toList := [Value.int IntKind.i64 0, Value.int IntKind.i64 0, Value.int IntKind.i64 0, Value.int IntKind.i64 0, Value.int IntKind.i64 0, Value.int IntKind.i64 0, Value.int IntKind.i64 0, Value.int IntKind.i64 0, Value.int IntKind.i64 0, Value.int IntKind.i64 0] }, Value.int IntKind.i64 0] }] := by kernel_rfl
theorem un_38 : Try.prog.underlying 38 = some (TypeDesc.tuple { toList := [37, 26] }) := by kernel_rfl
theorem sz_39 : szOf Try.prog 39 = some 1 := by kernel_rfl
theorem ag_39 : aggOf Try.prog 39 = some false := by kernel_rfl
theorem by_39 : byOf Try.prog 39 = some 8 := by kernel_rfl
theorem ze_39 : zeroOf Try.prog 39 = some [Value.nilFunc] := by kernel_rfl
theorem sz_40 : szOf Try.prog 40 = some 1 := by kernel_rfl
theorem ag_40 : aggOf Try.prog 40 = some false := by kernel_rfl
theorem by_40 : byOf Try.prog 40 = some 0 := by kernel_rfl
theorem ze_40 : zeroOf Try.prog 40 = some [Value.tuple { toList := [Value.int IntKind.i64 0, Value.int IntKind.i64 0] }] := by kernel_rfl
theorem un_40 : Try.prog.underlying 40 = some (TypeDesc.tuple { toList := [3, 26] }) := by kernel_rfl
theorem sz_41 : szOf Try.prog 41 = some 1 := by kernel_rfl
theorem ag_41 : aggOf Try.prog 41 = some false := by kernel_rfl
theorem by_41 : byOf Try.prog 41 = some 8 := by kernel_rfl
theorem ze_41 : zeroOf Try.prog 41 = some [Value.nilFunc] := by kernel_rfl
theorem sz_42 : szOf Try.prog 42 = some 1 := by kernel_rfl
theorem ag_42 : aggOf Try.prog 42 = some false := by kernel_rfl
theorem by_42 : byOf Try.prog 42 = some 8 := by kernel_rfl
theorem ze_42 : zeroOf Try.prog 42 = some [Value.nilFunc] := by kernel_rfl
theorem sz_43 : szOf Try.prog 43 = some 1 := by kernel_rfl
theorem ag_43 : aggOf Try.prog 43 = some false := by kernel_rfl
theorem by_43 : byOf Try.prog 43 = some 8 := by kernel_rfl
theorem ze_43 : zeroOf Try.prog 43 = some [Value.nilFunc] := by kernel_rfl
theorem sz_44 : szOf Try.prog 44 = some 1 := by kernel_rfl
theorem ag_44 : aggOf Try.prog 44 = some false := by kernel_rfl
theorem sl_44 : slOf Try.prog 44 = some 3 := by kernel_rfl
theorem by_44 : byOf Try.prog 44 = some 24 := by kernel_rfl
theorem ze_44 : zeroOf Try.prog 44 = some [Value.slice none 0 0] := by kernel_rfl
theorem un_44 : Try.prog.underlying 44 = some (TypeDesc.slice 3) := by kernel_rfl
theorem sz_45 : szOf Try.prog 45 = some 7 := by kernel_rfl
theorem ag_45 : aggOf Try.prog 45 = some true := by kernel_rfl
theorem by_45 : byOf Try.prog 45 = some 88 := by kernel_rfl
theorem pl_45 : plOf Try.prog 45 = some (PL.str [(0, 1), (1, 1), (2, 1), (3, 1), (4, 3)]) := by kernel_rfl
theorem ze_45 : zeroOf Try.prog 45 = some [Value.slice none 0 0, Value.slice none 0 0, Value.int IntKind.i64 0, Value.bool false, Value.int IntKind.i64 0, Value.int IntKind.i64 0, Value.int IntKind.i64 0] := by kernel_rfl
theorem fl_45_0 : fldOf Try.prog 45 0 = some (0, 22, 1) := by kernel_rfl
theorem fl_45_1 : fldOf Try.prog 45 1 = some (1, 22, 1) := by kernel_rfl
theorem fl_45_2 : fldOf Try.prog 45 2 = some (2, 2, 1) := by kernel_rfl
theorem fl_45_3 : fldOf Try.prog 45 3 = some (3, 4, 1) := by kernel_rfl
theorem fl_45_4 : fldOf Try.prog 45 4 = some (4, 33, 3) := by kernel_rfl
theorem sz_46 : szOf Try.prog 46 = some 7 := by kernel_rfl
theorem ag_46 : aggOf Try.prog 46 = some true := by kernel_rfl
theorem by_46 : byOf Try.prog 46 = some 88 := by kernel_rfl
theorem pl_46 : plOf Try.prog 46 = some (PL.str [(0, 1), (1, 1), (2, 1), (3, 1), (4, 3)]) := by kernel_rfl
theorem ze_46 : zeroOf Try.prog 46 = some [Value.slice none 0 0, Value.slice none 0 0, Value.int IntKind.i64 0, Value.bool false, Value.int IntKind.i64 0, Value.int IntKind.i64 0, Value.int IntKind.i64 0] := by kernel_rfl
theorem fl_46_0 : fldOf Try.prog 46 0 = some (0, 22, 1) := by kernel_rfl
theorem fl_46_1 : fldOf Try.prog 46 1 = some (1, 22, 1) := by kernel_rfl
theorem fl_46_2 : fldOf Try.prog 46 2 = some (2, 2, 1) := by kernel_rfl
theorem fl_46_3 : fldOf Try.prog 46 3 = some (3, 4, 1) := by kernel_rfl
theorem fl_46_4 : fldOf Try.prog 46 4 = some (4, 33, 3) := by kernel_rfl
theorem sz_47 : szOf Try.prog 47 = some 1 := by kernel_rfl
theorem ag_47 : aggOf Try.prog 47 = some false := by kernel_rfl
theorem by_47 : byOf Try.prog 47 = some 0 := by kernel_rfl
theorem ze_47 : zeroOf Try.prog 47 = some [Value.tuple { toList := [Value.agg { toList := [Value.slice none 0 0, Value.slice none 0 0, Value.int IntKind.i64 0, Value.bool false, Value.int IntKind.i64 0, Value.int IntKind.i64 0, Value.int IntKind.i64 0] }, Value.int IntKind.i64 0] }] := by kernel_rfl
theorem un_47 : Try.prog.underlying 47 = some (TypeDesc.tuple { toList := [46, 26] }) := by kernel_rfl
theorem sz_48 : szOf Try.prog 48 = some 1 := by kernel_rfl
theorem ag_48 : aggOf Try.prog 48 = some false := by kernel_rfl
theorem by_48 : byOf Try.prog 48 = some 8 := by kernel_rfl
theorem ze_48 : zeroOf Try.prog 48 = some [Value.nilFunc] := by kernel_rfl
theorem sz_49 : szOf Try.prog 49 = some 1 := by kernel_rfl
theorem ag_49 : aggOf Try.prog 49 = some false := by kernel_rfl
theorem by_49 : byOf Try.prog 49 = some 8 := by kernel_rfl
theorem ze_49 : zeroOf Try.prog 49 = some [Value.nilFunc] := by kernel_rfl
theorem sz_50 : szOf Try.prog 50 = some 1 := by kernel_rfl
theorem ag_50 : aggOf Try.prog 50 = some false := by kernel_rfl
theorem by_50 : byOf Try.prog 50 = some 8 := by kernel_rfl
theorem ze_50 : zeroOf Try.prog 50 = some [Value.nilFunc] := by kernel_rfl
theorem sz_51 : szOf Try.prog 51 = some 1 := by kernel_rfl
theorem ag_51 : aggOf Try.prog 51 = some false := by kernel_rfl
theorem by_51 : byOf Try.prog 51 = some 8 := by kernel_rfl
theorem ze_51 : zeroOf Try.prog 51 = some [Value.nilFunc] := by kernel_rfl
theorem sz_52 : szOf Try.prog 52 = some 1 := by kernel_rfl
theorem ag_52 : aggOf Try.prog 52 = some false := by kernel_rfl
theorem by_52 : byOf Try.prog 52 = some 8 := by kernel_rfl
theorem ze_52 : zeroOf Try.prog 52 = some [Value.nilFunc] := by kernel_rfl
theorem sz_53 : szOf Try.prog 53 = some 1 := by kernel_rfl
theorem ag_53 : aggOf Try.prog 53 = some false := by kernel_rfl
theorem by_53 : byOf Try.prog 53 = some 0 := by kernel_rfl
theorem ze_53 : zeroOf Try.prog 53 = some [Value.tuple { toList := [Value.agg { toList := [Value.int IntKind.i64 0, Value.int IntKind.i64 0, Value.int IntKind.i64 0] }, Value.agg { toList := [Value.int IntKind.i64 0, Value.int IntKind.i64 0, Value.int IntKind.i64 0] }, Value.int IntKind.i64 0] }] := by kernel_rfl
theorem un_53 : Try.prog.underlying 53 = some (TypeDesc.tuple { toList := [33, 33, 26] }) := by kernel_rfl
theorem sz_54 : szOf Try.prog 54 = some 1 := by kernel_rfl
theorem ag_54 : aggOf Try.prog 54 = some false := by kernel_rfl
theorem by_54 : byOf Try.prog 54 = some 8 := by kernel_rfl
theorem ze_54 : zeroOf Try.prog 54 = some [Value.nilFunc] := by kernel_rfl
theorem sz_55 : szOf Try.prog 55 = some 1 := by kernel_rfl
theorem ag_55 : aggOf Try.prog 55 = some false := by kernel_rfl
theorem by_55 : byOf Try.prog 55 = some 8 := by kernel_rfl
theorem ze_55 : zeroOf Try.prog 55 = some [Value.nilFunc] := by kernel_rfl
theorem sz_56 : szOf Try.prog 56 = some 1 := by kernel_rfl
theorem ag_56 : aggOf Try.prog 56 = some false := by kernel_rfl
theorem by_56 : byOf Try.prog 56 = some 8 := by kernel_rfl
theorem ze_56 : zeroOf Try.prog 56 = some [Value.nilFunc] := by kernel_rfl
theorem sz_57 : szOf Try.prog 57 = some 1 := by kernel_rfl
theorem ag_57 : aggOf Try.prog 57 = some false := by kernel_rfl
theorem by_57 : byOf Try.prog 57 = some 8 := by kernel_rfl
theorem ze_57 : zeroOf Try.prog 57 = some [Value.nilFunc] := by kernel_rfl
theorem sz_58 : szOf Try.prog 58 = some 1 := by kernel_rfl
theorem ag_58 : aggOf Try.prog 58 = some false := by kernel_rfl
theorem by_58 : byOf Try.prog 58 = some 8 := by kernel_rfl
theorem ze_58 : zeroOf Try.prog 58 = some [Value.nilFunc] := by kernel_rfl
theorem sz_59 : szOf Try.prog 59 = some 1 := by kernel_rfl
theorem ag_59 : aggOf Try.prog 59 = some false := by kernel_rfl
theorem by_59 : byOf Try.prog 59 = some 8 := by kernel_rfl
theorem ze_59 : zeroOf Try.prog 59 = some [Value.nilFunc] := by kernel_rfl
theorem sz_60 : szOf Try.prog 60 = some 1 := by kernel_rfl
theorem ag_60 : aggOf Try.prog 60 = some false := by kernel_rfl
theorem sl_60 : slOf Try.prog 60 = some 163 := by kernel_rfl
theorem by_60 : byOf Try.prog 60 = some 24 := by kernel_rfl
theorem ze_60 : zeroOf Try.prog 60 = some [Value.slice none 0 0] := by kernel_rfl
theorem un_60 : Try.prog.underlying 60 = some (TypeDesc.slice 163) := by kernel_rfl
theorem sz_61 : szOf Try.prog 61 = some 2 := by kernel_rfl
theorem ag_61 : aggOf Try.prog 61 = some true := by kernel_rfl
theorem by_61 : byOf Try.prog 61 = some 32 := by kernel_rfl
theorem pl_61 : plOf Try.prog 61 = some (PL.str [(0, 1), (1, 1)]) := by kernel_rfl
theorem ze_61 : zeroOf Try.prog 61 = some [Value.int IntKind.i64 0, Value.slice none 0 0] := by kernel_rfl
theorem fl_61_0 : fldOf Try.prog 61 0 = some (0, 3, 1) := by kernel_rfl
theorem fl_61_1 : fldOf Try.prog 61 1 = some (1, 60, 1) := by kernel_rfl
theorem sz_62 : szOf Try.prog 62 = some 2 := by kernel_rfl
theorem ag_62 : aggOf Try.prog 62 = some true := by kernel_rfl
theorem by_62 : byOf Try.prog 62 = some 32 := by kernel_rfl
theorem pl_62 : plOf Try.prog 62 = some (PL.str [(0, 1), (1, 1)]) := by kernel_rfl
theorem ze_62 : zeroOf Try.prog 62 = some [Value.int IntKind.i64 0, Value.slice none 0 0] := by kernel_rfl
theorem fl_62_0 : fldOf Try.prog 62 0 = some (0, 3, 1) := by kernel_rfl
theorem fl_62_1 : fldOf Try.prog 62 1 = some (1, 60, 1) := by kernel_rfl
theorem sz_63 : szOf Try.prog 63 = some 1 := by kernel_rfl
theorem ag_63 : aggOf Try.prog 63 = some false := by kernel_rfl
theorem by_63 : byOf Try.prog 63 = some 8 := by kernel_rfl
theorem ze_63 : zeroOf Try.prog 63 = some [Value.nilFunc] := by kernel_rfl
theorem sz_64 : szOf Try.prog 64 = some 1 := by kernel_rfl
theorem ag_64 : aggOf Try.prog 64 = some false := by kernel_rfl
theorem by_64 : byOf Try.prog 64 = some 8 := by kernel_rfl
theorem ze_64 : zeroOf Try.prog 64 = some [Value.nilFunc] := by kernel_rfl
theorem sz_65 : szOf Try.prog 65 = some 1 := by kernel_rfl
theorem ag_65 : aggOf Try.prog 65 = some false := by kernel_rfl
theorem sl_65 : slOf Try.prog 65 = some 70 := by kernel_rfl
theorem by_65 : byOf Try.prog 65 = some 24 := by kernel_rfl
theorem ze_65 : zeroOf Try.prog 65 = some [Value.slice none 0 0] := by kernel_rfl
theorem un_65 : Try.prog.underlying 65 = some (TypeDesc.slice 70) := by kernel_rfl
theorem sz_66 : szOf Try.prog 66 = some 1 := by kernel_rfl
theorem ag_66 : aggOf Try.prog 66 = some false := by kernel_rfl
theorem by_66 : byOf Try.prog 66 = some 8 := by kernel_rfl
theorem ze_66 : zeroOf Try.prog 66 = some [Value.nilFunc] := by kernel_rfl
theorem sz_67 : szOf Try.prog 67 = some 1 := by kernel_rfl
theorem ag_67 : aggOf Try.prog 67 = some false := by kernel_rfl
theorem by_67 : byOf Try.prog 67 = some 8 := by kernel_rfl
theorem ze_67 : zeroOf Try.prog 67 = some [Value.pointer none] := by kernel_rfl
theorem un_67 : Try.prog.underlying 67 = some (TypeDesc.pointer 37) := by kernel_rfl
theorem sz_68 : szOf Try.prog 68 = some 1 := by kernel_rfl
theorem ag_68 : aggOf Try.prog 68 = some false := by kernel_rfl
theorem by_68 : byOf Try.prog 68 = some 8 := by kernel_rfl
theorem ze_68 : zeroOf Try.prog 68 = some [Value.pointer none] := by kernel_rfl
theorem un_68 : Try.prog.underlying 68 = some (TypeDesc.pointer 3) := by kernel_rfl
theorem sz_69 : szOf Try.prog 69 = some 2 := by kernel_rfl
theorem ag_69 : aggOf Try.prog 69 = some true := by kernel_rfl
theorem by_69 : byOf Try.prog 69 = some 16 := by kernel_rfl
theorem pl_69 : plOf Try.prog 69 = some (PL.str [(0, 1), (1, 1)]) := by kernel_rfl
theorem ze_69 : zeroOf Try.prog 69 = some [Value.int IntKind.i64 0, Value.pointer none] := by kernel_rfl
theorem fl_69_0 : fldOf Try.prog 69 0 = some (0, 3, 1) := by kernel_rfl
theorem fl_69_1 : fldOf Try.prog 69 1 = some (1, 68, 1) := by kernel_rfl
theorem sz_70 : szOf Try.prog 70 = some 2 := by kernel_rfl
theorem ag_70 : aggOf Try.prog 70 = some true := by kernel_rfl
theorem by_70 : byOf Try.prog 70 = some 16 := by kernel_rfl
theorem pl_70 : plOf Try.prog 70 = some (PL.str [(0, 1), (1, 1)]) := by kernel_rfl
theorem ze_70 : zeroOf Try.prog 70 = some [Value.int IntKind.i64 0, Value.pointer none] := by kernel_rfl
theorem fl_70_0 : fldOf Try.prog 70 0 = some (0, 3, 1) := by kernel_rfl
theorem fl_70_1 : fldOf Try.prog 70 1 = some (1, 68, 1) := by kernel_rfl
theorem sz_71 : szOf Try.prog 71 = some 1 := by kernel_rfl
theorem ag_71 : aggOf Try.prog 71 = some false := by kernel_rfl
theorem by_71 : byOf Try.prog 71 = some 8 := by kernel_rfl
theorem ze_71 : zeroOf Try.prog 71 = some [Value.nilFunc] := by kernel_rfl
theorem sz_72 : szOf Try.prog 72 = some 1 := by kernel_rfl
theorem ag_72 : aggOf Try.prog 72 = some false := by kernel_rfl
theorem by_72 : byOf Try.prog 72 = some 0 := by kernel_rfl
theorem ze_72 : zeroOf Try.prog 72 = some [Value.tuple { toList := [Value.slice none 0 0, Value.slice none 0 0] }] := by kernel_rfl
theorem un_72 : Try.prog.underlying 72 = some (TypeDesc.tuple { toList := [44, 44] }) := by kernel_rfl
theorem sz_73 : szOf Try.prog 73 = some 1 := by kernel_rfl
theorem ag_73 : aggOf Try.prog 73 = some false := by kernel_rfl
theorem by_73 : byOf Try.prog 73 = some 8 := by kernel_rfl
theorem ze_73 : zeroOf Try.prog 73 = some [Value.nilFunc] := by kernel_rfl
theorem sz_74 : szOf Try.prog 74 = some 1 := by kernel_rfl
theorem ag_74 : aggOf Try.prog 74 = some false := by kernel_rfl
theorem by_74 : byOf Try.prog 74 = some 8 := by kernel_rfl
theorem ze_74 : zeroOf Try.prog 74 = some [Value.nilFunc] := by kernel_rfl
theorem sz_75 : szOf Try.prog 75 = some 1 := by kernel_rfl
theorem ag_75 : aggOf Try.prog 75 = some false := by kernel_rfl
theorem by_75 : byOf Try.prog 75 = some 8 := by kernel_rfl
theorem ze_75 : zeroOf Try.prog 75 = some [Value.nilFunc] := by kernel_rfl
theorem sz_76 : szOf Try.prog 76 = some 1 := by kernel_rfl
theorem ag_76 : aggOf Try.prog 76 = some false := by kernel_rfl
theorem by_76 : byOf Try.prog 76 = some 8 := by kernel_rfl
theorem ze_76 : zeroOf Try.prog 76 = some [Value.nilFunc] := by kernel_rfl
theorem sz_77 : szOf Try.prog 77 = some 1 := by kernel_rfl
theorem ag_77 : aggOf Try.prog 77 = some false := by kernel_rfl
theorem sl_77 : slOf Try.prog 77 = some 2 := by kernel_rfl
theorem by_77 : byOf Try.prog 77 = some 24 := by kernel_rfl
theorem ze_77 : zeroOf Try.prog 77 = some [Value.slice none 0 0] := by kernel_rfl
theorem un_77 : Try.prog.underlying 77 = some (TypeDesc.slice 2) := by kernel_rfl
theorem sz_78 : szOf Try.prog 78 = some 1 := by kernel_rfl
theorem ag_78 : aggOf Try.prog 78 = some false := by kernel_rfl
theorem sl_78 : slOf Try.prog 78 = some 4 := by kernel_rfl
theorem by_78 : byOf Try.prog 78 = some 24 := by kernel_rfl
theorem ze_78 : zeroOf Try.prog 78 = some [Value.slice none 0 0] := by kernel_rfl
theorem un_78 : Try.prog.underlying 78 = some (TypeDesc.slice 4) := by kernel_rfl
theorem sz_79 : szOf Try.prog 79 = some 6 := by kernel_rfl
theorem ag_79 : aggOf Try.prog 79 = some true := by kernel_rfl
theorem by_79 : byOf Try.prog 79 = some 144 := by kernel_rfl
theorem pl_79 : plOf Try.prog 79 = some (PL.str [(0, 1), (1, 1), (2, 1), (3, 1), (4, 1), (5, 1)]) := by kernel_rfl
theorem ze_79 : zeroOf Try.prog 79 = some [Value.slice none 0 0, Value.slice none 0 0, Value.slice none 0 0, Value.slice none 0 0, Value.slice none 0 0, Value.slice none 0 0] := by kernel_rfl
theorem fl_79_0 : fldOf Try.prog 79 0 = some (0, 44, 1) := by kernel_rfl
theorem fl_79_1 : fldOf Try.prog 79 1 = some (1, 77, 1) := by kernel_rfl
theorem fl_79_2 : fldOf Try.prog 79 2 = some (2, 77, 1) := by kernel_rfl
theorem fl_79_3 : fldOf Try.prog 79 3 = some (3, 44, 1) := by kernel_rfl
theorem fl_79_4 : fldOf Try.prog 79 4 = some (4, 78, 1) := by kernel_rfl
theorem fl_79_5 : fldOf Try.prog 79 5 = some (5, 78, 1) := by kernel_rfl
theorem sz_80 : szOf Try.prog 80 = some 6 := by kernel_rfl
theorem ag_80 : aggOf Try.prog 80 = some true := by kernel_rfl
theorem by_80 : byOf Try.prog 80 = some 144 := by kernel_rfl
theorem pl_80 : plOf Try.prog 80 = some (PL.str [(0, 1), (1, 1), (2, 1), (3, 1), (4, 1), (5, 1)]) := by kernel_rfl
theorem ze_80 : zeroOf Try.prog 80 = some [Value.slice none 0 0, Value.slice none 0 0, Value.slice none 0 0, Value.slice none 0 0, Value.slice none 0 0, Value.slice none 0 0] := by kernel_rfl
theorem fl_80_0 : fldOf Try.prog 80 0 = some (0, 44, 1) := by kernel_rfl
theorem fl_80_1 : fldOf Try.prog 80 1 = some (1, 77, 1) := by kernel_rfl
theorem fl_80_2 : fldOf Try.prog 80 2 = some (2, 77, 1) := by kernel_rfl
theorem fl_80_3 : fldOf Try.prog 80 3 = some (3, 44, 1) := by kernel_rfl
theorem fl_80_4 : fldOf Try.prog 80 4 = some (4, 78, 1) := by kernel_rfl
theorem fl_80_5 : fldOf Try.prog 80 5 = some (5, 78, 1) := by kernel_rfl
theorem sz_81 : szOf Try.prog 81 = some 16 := by kernel_rfl
theorem ag_81 : aggOf Try.prog 81 = some true := by kernel_rfl
theorem by_81 : byOf Try.prog 81 = some 304 := by kernel_rfl
theorem pl_81 : plOf Try.prog 81 = some (PL.str [(0, 6), (6, 1), (7, 1), (8, 1), (9, 1), (10, 1), (11, 1), (12, 1), (13, 1), (14, 1), (15, 1)]) := by kernel_rfl
theorem ze_81 : zeroOf Try.prog 81 = some [Value.slice none 0 0, Value.slice none 0 0, Value.slice none 0 0, Value.slice none 0 0, Value.slice none 0 0, Value.slice none 0 0, Value.slice none 0 0, Value.slice none 0 0, Value.int IntKind.i64 0, Value.int IntKind.i64 0, Value.int IntKind.i64 0, Value.int IntKind.i64 0, Value.int IntKind.i64 0, Value.slice none 0 0, Value.slice none 0 0, Value.slice none 0 0] := by kernel_rfl
theorem fl_81_0 : fldOf Try.prog 81 0 = some (0, 80, 6) := by kernel_rfl
theorem fl_81_1 : fldOf Try.prog 81 1 = some (6, 44, 1) := by kernel_rfl
theorem fl_81_2 : fldOf Try.prog 81 2 = some (7, 44, 1) := by kernel_rfl
theorem fl_81_3 : fldOf Try.prog 81 3 = some (8, 3, 1) := by kernel_rfl
theorem fl_81_4 : fldOf Try.prog 81 4 = some (9, 3, 1) := by kernel_rfl
theorem fl_81_5 : fldOf Try.prog 81 5 = some (10, 3, 1) := by kernel_rfl
theorem fl_81_6 : fldOf Try.prog 81 6 = some (11, 3, 1) := by kernel_rfl
theorem fl_81_7 : fldOf Try.prog 81 7 = some (12, 3, 1) := by kernel_rfl
theorem fl_81_8 : fldOf Try.prog 81 8 = some (13, 44, 1) := by kernel_rfl
theorem fl_81_9 : fldOf Try.prog 81 9 = some (14, 44, 1) := by kernel_rfl
theorem fl_81_10 : fldOf Try.prog 81 10 = some (15, 78, 1) := by kernel_rfl
theorem sz_82 : szOf Try.prog 82 = some 16 := by kernel_rfl
theorem ag_82 : aggOf Try.prog 82 = some true := by kernel_rfl
theorem by_82 : byOf Try.prog 82 = some 304 := by kernel_rfl
theorem pl_82 : plOf Try.prog 82 = some (PL.str [(0, 6), (6, 1), (7, 1), (8, 1), (9, 1), (10, 1), (11, 1), (12, 1), (13, 1), (14, 1), (15, 1)]) := by kernel_rfl
theorem ze_82 : zeroOf Try.prog 82 = some [Value.slice none 0 0, Value.slice none 0 0, Value.slice none 0 0, Value.slice none 0 0, Value.slice none 0 0, Value.slice none 0 0, Value.slice none 0 0, Value.slice none 0 0, Value.int IntKind.i64 0, Value.int IntKind.i64 0, Value.int IntKind.i64 0, Value.int IntKind.i64 0, Value.int IntKind.i64 0, Value.slice none 0 0, Value.slice none 0 0, Value.slice none 0 0] := by kernel_rfl
theorem fl_82_0 : fldOf Try.prog 82 0 = some (0, 80, 6) := by kernel_rfl
theorem fl_82_1 : fldOf Try.prog 82 1 = some (6, 44, 1) := by kernel_rfl
theorem fl_82_2 : fldOf Try.prog 82 2 = some (7, 44, 1) := by kernel_rfl
theorem fl_82_3 : fldOf Try.prog 82 3 = some (8, 3, 1) := by kernel_rfl
theorem fl_82_4 : fldOf Try.prog 82 4 = some (9, 3, 1) := by kernel_rfl
theorem fl_82_5 : fldOf Try.prog 82 5 = some (10, 3, 1) := by kernel_rfl
theorem fl_82_6 : fldOf Try.prog 82 6 = some (11, 3, 1) := by kernel_rfl
theorem fl_82_7 : fldOf Try.prog 82 7 = some (12, 3, 1) := by kernel_rfl
theorem fl_82_8 : fldOf Try.prog 82 8 = some (13, 44, 1) := by kernel_rfl
theorem fl_82_9 : fldOf Try.prog 82 9 = some (14, 44, 1) := by kernel_rfl
theorem fl_82_10 : fldOf Try.prog 82 10 = some (15, 78, 1) := by kernel_rfl
theorem sz_83 : szOf Try.prog 83 = some 1 := by kernel_rfl
theorem ag_83 : aggOf Try.prog 83 = some false := by kernel_rfl
theorem by_83 : byOf Try.prog 83 = some 0 := by kernel_rfl
theorem ze_83 : zeroOf Try.prog 83 = some [Value.tuple { toList := [Value.agg { toList := [Value.slice none 0 0, Value.slice none 0 0, Value.slice none 0 0, Value.slice none 0 0, Value.slice none 0 0, Value.slice none 0 0, Value.slice none 0 0, Value.slice none 0 0, Value.int IntKind.i64 0, Value.int IntKind.i64 0, Value.int IntKind.i64 0, Value.int IntKind.i64 0, Value.int IntKind.i64 0, Value.slice none 0 0, Value.slice none 0 0, Value.slice none 0 0] }, Value.int IntKind.i64 0] }] := by kernel_rfl
theorem un_83 : Try.prog.underlying 83 = some (TypeDesc.tuple { toList := [82, 26] }) := by kernel_rfl
theorem sz_84 : szOf Try.prog 84 = some 1 := by kernel_rfl
theorem ag_84 : aggOf Try.prog 84 = some false := by kernel_rfl
theorem by_84 : byOf Try.prog 84 = some 8 := by kernel_rfl
theorem ze_84 : zeroOf Try.prog 84 = some [Value.nilFunc] := by kernel_rfl
theorem sz_85 : szOf Try.prog 85 = some 1 := by kernel_rfl
theorem ag_85 : aggOf Try.prog 85 = some false := by kernel_rfl
theorem by_85 : byOf Try.prog 85 = some 8 := by kernel_rfl
theorem ze_85 : zeroOf Try.prog 85 = some [Value.nilFunc] := by kernel_rfl
theorem sz_86 : szOf Try.prog 86 = some 1 := by kernel_rfl
theorem ag_86 : aggOf Try.prog 86 = some false := by kernel_rfl
theorem by_86 : byOf Try.prog 86 = some 8 := by kernel_rfl
theorem ze_86 : zeroOf Try.prog 86 = some [Value.pointer none] := by kernel_rfl
theorem un_86 : Try.prog.underlying 86 = some (TypeDesc.pointer 100) := by kernel_rfl
theorem sz_87 : szOf Try.prog 87 = some 1 := by kernel_rfl
theorem ag_87 : aggOf Try.prog 87 = some false := by kernel_rfl
theorem by_87 : byOf Try.prog 87 = some 0 := by kernel_rfl
theorem ze_87 : zeroOf Try.prog 87 = some [Value.tuple { toList := [Value.pointer none, Value.int IntKind.i64 0] }] := by kernel_rfl
theorem un_87 : Try.prog.underlying 87 = some (TypeDesc.tuple { toList := [86, 26] }) := by kernel_rfl
theorem sz_88 : szOf Try.prog 88 = some 1 := by kernel_rfl
theorem ag_88 : aggOf Try.prog 88 = some false := by kernel_rfl
theorem by_88 : byOf Try.prog 88 = some 8 := by kernel_rfl
theorem ze_88 : zeroOf Try.prog 88 = some [Value.nilFunc] := by kernel_rfl
theorem sz_89 : szOf Try.prog 89 = some 1 := by kernel_rfl
theorem ag_89 : aggOf Try.prog 89 = some false := by kernel_rfl
theorem by_89 : byOf Try.prog 89 = some 8 := by kernel_rfl
theorem ze_89 : zeroOf Try.prog 89 = some [Value.nilFunc] := by kernel_rfl
theorem sz_90 : szOf Try.prog 90 = some 2 := by kernel_rfl
theorem ag_90 : aggOf Try.prog 90 = some true := by kernel_rfl
theorem by_90 : byOf Try.prog 90 = some 16 := by kernel_rfl
theorem pl_90 : plOf Try.prog 90 = some (PL.str [(0, 1), (1, 1)]) := by kernel_rfl
theorem ze_90 : zeroOf Try.prog 90 = some [Value.int IntKind.i64 0, Value.int IntKind.i64 0] := by kernel_rfl
theorem eq_90 : eqOf Try.prog 90 = some [(0, false), (1, false)] := by kernel_rfl
theorem fl_90_0 : fldOf Try.prog 90 0 = some (0, 2, 1) := by kernel_rfl
theorem fl_90_1 : fldOf Try.prog 90 1 = some (1, 2, 1) := by kernel_rfl
theorem sz_91 : szOf Try.prog 91 = some 2 := by kernel_rfl
theorem ag_91 : aggOf Try.prog 91 = some true := by kernel_rfl
theorem by_91 : byOf Try.prog 91 = some 16 := by kernel_rfl
theorem pl_91 : plOf Try.prog 91 = some (PL.str [(0, 1), (1, 1)]) := by kernel_rfl
theorem ze_91 : zeroOf Try.prog 91 = some [Value.int IntKind.i64 0, Value.int IntKind.i64 0] := by kernel_rfl
theorem eq_91 : eqOf Try.prog 91 = some [(0, false), (1, false)] := by kernel_rfl
theorem fl_91_0 : fldOf Try.prog 91 0 = some (0, 2, 1) := by kernel_rfl
theorem fl_91_1 : fldOf Try.prog 91 1 = some (1, 2, 1) := by kernel_rfl
theorem sz_92 : szOf Try.prog 92 = some 3 := by kernel_rfl
theorem ag_92 : aggOf Try.prog 92 = some true := by kernel_rfl
theorem by_92 : byOf Try.prog 92 = some 24 := by kernel_rfl
theorem pl_92 : plOf Try.prog 92 = some (PL.str [(0, 2), (2, 1)]) := by kernel_rfl
theorem ze_92 : zeroOf Try.prog 92 = some [Value.int IntKind.i64 0, Value.int IntKind.i64 0, Value.int IntKind.i64 0] := by kernel_rfl
theorem fl_92_0 : fldOf Try.prog 92 0 = some (0, 91, 2) := by kernel_rfl
theorem fl_92_1 : fldOf Try.prog 92 1 = some (2, 3, 1) := by kernel_rfl
theorem sz_93 : szOf Try.prog 93 = some 3 := by kernel_rfl
theorem ag_93 : aggOf Try.prog 93 = some true := by kernel_rfl
theorem by_93 : byOf Try.prog 93 = some 24 := by kernel_rfl
theorem pl_93 : plOf Try.prog 93 = some (PL.str [(0, 2), (2, 1)]) := by kernel_rfl
theorem ze_93 : zeroOf Try.prog 93 = some [Value.int IntKind.i64 0, Value.int IntKind.i64 0, Value.int IntKind.i64 0] := by kernel_rfl
theorem fl_93_0 : fldOf Try.prog 93 0 = some (0, 91, 2) := by kernel_rfl
theorem fl_93_1 : fldOf Try.prog 93 1 = some (2, 3, 1) := by kernel_rfl
theorem sz_94 : szOf Try.prog 94 = some 1 := by kernel_rfl
theorem ag_94 : aggOf Try.prog 94 = some false := by kernel_rfl
theorem sl_94 : slOf Try.prog 94 = some 93 := by kernel_rfl
theorem by_94 : byOf Try.prog 94 = some 24 := by kernel_rfl
theorem ze_94 : zeroOf Try.prog 94 = some [Value.slice none 0 0] := by kernel_rfl
theorem un_94 : Try.prog.underlying 94 = some (TypeDesc.slice 93) := by kernel_rfl
theorem sz_95 : szOf Try.prog 95 = some 1 := by kernel_rfl
theorem ag_95 : aggOf Try.prog 95 = some true := by kernel_rfl
theorem by_95 : byOf Try.prog 95 = some 24 := by kernel_rfl
theorem pl_95 : plOf Try.prog 95 = some (PL.str [(0, 1)]) := by kernel_rfl
theorem ze_95 : zeroOf Try.prog 95 = some [Value.slice none 0 0] := by kernel_rfl
theorem fl_95_0 : fldOf Try.prog 95 0 = some (0, 94, 1) := by kernel_rfl
theorem sz_96 : szOf Try.prog 96 = some 1 := by kernel_rfl
theorem ag_96 : aggOf Try.prog 96 = some true := by kernel_rfl
theorem by_96 : byOf Try.prog 96 = some 24 := by kernel_rfl
theorem pl_96 : plOf Try.prog 96 = some (PL.str [(0, 1)]) := by kernel_rfl
theorem ze_96 : zeroOf Try.prog 96 = some [Value.slice none 0 0] := by kernel_rfl
theorem fl_96_0 : fldOf Try.prog 96 0 = some (0, 94, 1) := by kernel_rfl
theorem sz_97 : szOf Try.prog 97 = some 1 := by kernel_rfl
theorem ag_97 : aggOf Try.prog 97 = some false := by kernel_rfl
theorem by_97 : byOf Try.prog 97 = some 8 := by kernel_rfl
theorem ze_97 : zeroOf Try.prog 97 = some [Value.map none] := by kernel_rfl
theorem un_97 : Try.prog.underlying 97 = some (TypeDesc.map 91 4) := by kernel_rfl
theorem sz_98 : szOf Try.prog 98 = some 1 := by kernel_rfl
theorem ag_98 : aggOf Try.prog 98 = some false := by kernel_rfl
theorem by_98 : byOf Try.prog 98 = some 8 := by kernel_rfl
theorem ze_98 : zeroOf Try.prog 98 = some [Value.map none] := by kernel_rfl
theorem un_98 : Try.prog.underlying 98 = some (TypeDesc.map 91 3) := by kernel_rfl
theorem sz_99 : szOf Try.prog 99 = some 11 := by kernel_rfl
theorem ag_99 : aggOf Try.prog 99 = some true := by kernel_rfl
theorem by_99 : byOf Try.prog 99 = some 104 := by kernel_rfl
theorem pl_99 : plOf Try.prog 99 = some (PL.str [(0, 3), (3, 1), (4, 1), (5, 1), (6, 1), (7, 1), (8, 1), (9, 1), (10, 1)]) := by kernel_rfl
theorem ze_99 : zeroOf Try.prog 99 = some [Value.int IntKind.i64 0, Value.int IntKind.i64 0, Value.int IntKind.i64 0, Value.slice none 0 0, Value.int IntKind.i64 0, Value.map none, Value.map none, Value.map none, Value.map none, Value.int IntKind.i64 0, Value.int IntKind.i64 0] := by kernel_rfl
theorem fl_99_0 : fldOf Try.prog 99 0 = some (0, 93, 3) := by kernel_rfl
theorem fl_99_1 : fldOf Try.prog 99 1 = some (3, 96, 1) := by kernel_rfl
theorem fl_99_2 : fldOf Try.prog 99 2 = some (4, 3, 1) := by kernel_rfl
theorem fl_99_3 : fldOf Try.prog 99 3 = some (5, 97, 1) := by kernel_rfl
theorem fl_99_4 : fldOf Try.prog 99 4 = some (6, 98, 1) := by kernel_rfl
theorem fl_99_5 : fldOf Try.prog 99 5 = some (7, 97, 1) := by kernel_rfl
theorem fl_99_6 : fldOf Try.prog 99 6 = some (8, 97, 1) := by kernel_rfl
theorem fl_99_7 : fldOf Try.prog 99 7 = some (9, 3, 1) := by kernel_rfl
theorem fl_99_8 : fldOf Try.prog 99 8 = some (10, 2, 1) := by kernel_rfl
theorem sz_100 : szOf Try.prog 100 = some 11 := by kernel_rfl
theorem ag_100 : aggOf Try.prog 100 = some true := by kernel_rfl
theorem by_100 : byOf Try.prog 100 = some 104 := by kernel_rfl
theorem pl_100 : plOf Try.prog 100 = some (PL.str [(0, 3), (3, 1), (4, 1), (5, 1), (6, 1), (7, 1), (8, 1), (9, 1), (10, 1)]) := by kernel_rfl
theorem ze_100 : zeroOf Try.prog 100 = some [Value.int IntKind.i64 0, Value.int IntKind.i64 0, Value.int IntKind.i64 0, Value.slice none 0 0, Value.int IntKind.i64 0, Value.map none, Value.map none, Value.map none, Value.map none, Value.int IntKind.i64 0, Value.int IntKind.i64 0] := by kernel_rfl
theorem fl_100_0 : fldOf Try.prog 100 0 = some (0, 93, 3) := by kernel_rfl
theorem fl_100_1 : fldOf Try.prog 100 1 = some (3, 96, 1) := by kernel_rfl
theorem fl_100_2 : fldOf Try.prog 100 2 = some (4, 3, 1) := by kernel_rfl
theorem fl_100_3 : fldOf Try.prog 100 3 = some (5, 97, 1) := by kernel_rfl
theorem fl_100_4 : fldOf Try.prog 100 4 = some (6, 98, 1) := by kernel_rfl
theorem fl_100_5 : fldOf Try.prog 100 5 = some (7, 97, 1) := by kernel_rfl
theorem fl_100_6 : fldOf Try.prog 100 6 = some (8, 97, 1) := by kernel_rfl
theorem fl_100_7 : fldOf Try.prog 100 7 = some (9, 3, 1) := by kernel_rfl
theorem fl_100_8 : fldOf Try.prog 100 8 = some (10, 2, 1) := by kernel_rfl
theorem sz_101 : szOf Try.prog 101 = some 1 := by kernel_rfl
theorem ag_101 : aggOf Try.prog 101 = some false := by kernel_rfl
theorem by_101 : byOf Try.prog 101 = some 8 := by kernel_rfl
theorem ze_101 : zeroOf Try.prog 101 = some [Value.nilFunc] := by kernel_rfl
theorem sz_102 : szOf Try.prog 102 = some 1 := by kernel_rfl
theorem ag_102 : aggOf Try.prog 102 = some false := by kernel_rfl
theorem by_102 : byOf Try.prog 102 = some 8 := by kernel_rfl
theorem ze_102 : zeroOf Try.prog 102 = some [Value.nilFunc] := by kernel_rfl
theorem sz_103 : szOf Try.prog 103 = some 1 := by kernel_rfl
theorem ag_103 : aggOf Try.prog 103 = some false := by kernel_rfl
theorem by_103 : byOf Try.prog 103 = some 8 := by kernel_rfl
theorem ze_103 : zeroOf Try.prog 103 = some [Value.nilFunc] := by kernel_rfl
theorem sz_104 : szOf Try.prog 104 = some 1 := by kernel_rfl
theorem ag_104 : aggOf Try.prog 104 = some false := by kernel_rfl
theorem by_104 : byOf Try.prog 104 = some 8 := by kernel_rfl
theorem ze_104 : zeroOf Try.prog 104 = some [Value.nilFunc] := by kernel_rfl
theorem sz_105 : szOf Try.prog 105 = some 1 := by kernel_rfl
theorem ag_105 : aggOf Try.prog 105 = some false := by kernel_rfl
theorem by_105 : byOf Try.prog 105 = some 8 := by kernel_rfl
theorem ze_105 : zeroOf Try.prog 105 = some [Value.nilFunc] := by kernel_rfl
theorem sz_106 : szOf Try.prog 106 = some 1 := by kernel_rfl
theorem ag_106 : aggOf Try.prog 106 = some false := by kernel_rfl
theorem by_106 : byOf Try.prog 106 = some 8 := by kernel_rfl
theorem ze_106 : zeroOf Try.prog 106 = some [Value.nilFunc] := by kernel_rfl
theorem sz_107 : szOf Try.prog 107 = some 4 := by kernel_rfl
theorem ag_107 : aggOf Try.prog 107 = some true := by kernel_rfl
theorem by_107 : byOf Try.prog 107 = some 48 := by kernel_rfl
theorem pl_107 : plOf Try.prog 107 = some (PL.str [(0, 1), (1, 1), (2, 1), (3, 1)]) := by kernel_rfl
theorem ze_107 : zeroOf Try.prog 107 = some [Value.pointer none, Value.slice none 0 0, Value.int IntKind.i64 0, Value.int IntKind.i64 0] := by kernel_rfl
theorem fl_107_0 : fldOf Try.prog 107 0 = some (0, 86, 1) := by kernel_rfl
theorem fl_107_1 : fldOf Try.prog 107 1 = some (1, 44, 1) := by kernel_rfl
theorem fl_107_2 : fldOf Try.prog 107 2 = some (2, 2, 1) := by kernel_rfl
theorem fl_107_3 : fldOf Try.prog 107 3 = some (3, 2, 1) := by kernel_rfl
theorem sz_108 : szOf Try.prog 108 = some 4 := by kernel_rfl
theorem ag_108 : aggOf Try.prog 108 = some true := by kernel_rfl
theorem by_108 : byOf Try.prog 108 = some 48 := by kernel_rfl
theorem pl_108 : plOf Try.prog 108 = some (PL.str [(0, 1), (1, 1), (2, 1), (3, 1)]) := by kernel_rfl
theorem ze_108 : zeroOf Try.prog 108 = some [Value.pointer none, Value.slice none 0 0, Value.int IntKind.i64 0, Value.int IntKind.i64 0] := by kernel_rfl
theorem fl_108_0 : fldOf Try.prog 108 0 = some (0, 86, 1) := by kernel_rfl
theorem fl_108_1 : fldOf Try.prog 108 1 = some (1, 44, 1) := by kernel_rfl
theorem fl_108_2 : fldOf Try.prog 108 2 = some (2, 2, 1) := by kernel_rfl
theorem fl_108_3 : fldOf Try.prog 108 3 = some (3, 2, 1) := by kernel_rfl
theorem sz_109 : szOf Try.prog 109 = some 1 := by kernel_rfl
theorem ag_109 : aggOf Try.prog 109 = some false := by kernel_rfl
theorem by_109 : byOf Try.prog 109 = some 0 := by kernel_rfl
theorem ze_109 : zeroOf Try.prog 109 = some [Value.tuple { toList := [Value.agg { toList := [Value.pointer none, Value.slice none 0 0, Value.int IntKind.i64 0, Value.int IntKind.i64 0] }, Value.int IntKind.i64 0] }] := by kernel_rfl
theorem un_109 : Try.prog.underlying 109 = some (TypeDesc.tuple { toList := [108, 26] }) := by kernel_rfl
theorem sz_110 : szOf Try.prog 110 = some 1 := by kernel_rfl
theorem ag_110 : aggOf Try.prog 110 = some false := by kernel_rfl
theorem by_110 : byOf Try.prog 110 = some 8 := by kernel_rfl
theorem ze_110 : zeroOf Try.prog 110 = some [Value.nilFunc] := by kernel_rfl
theorem sz_111 : szOf Try.prog 111 = some 1 := by kernel_rfl
theorem ag_111 : aggOf Try.prog 111 = some false := by kernel_rfl
theorem by_111 : byOf Try.prog 111 = some 8 := by kernel_rfl
theorem ze_111 : zeroOf Try.prog 111 = some [Value.nilFunc] := by kernel_rfl
theorem sz_112 : szOf Try.prog 112 = some 1 := by kernel_rfl
theorem ag_112 : aggOf Try.prog 112 = some false := by kernel_rfl
theorem by_112 : byOf Try.prog 112 = some 8 := by kernel_rfl
theorem ze_112 : zeroOf Try.prog 112 = some [Value.nilFunc] := by kernel_rfl
theorem sz_113 : szOf Try.prog 113 = some 1 := by kernel_rfl
theorem ag_113 : aggOf Try.prog 113 = some false := by kernel_rfl
theorem by_113 : byOf Try.prog 113 = some 8 := by kernel_rfl
theorem ze_113 : zeroOf Try.prog 113 = some [Value.nilFunc] := by kernel_rfl
theorem sz_114 : szOf Try.prog 114 = some 1 := by kernel_rfl
theorem ag_114 : aggOf Try.prog 114 = some false := by kernel_rfl
theorem by_114 : byOf Try.prog 114 = some 8 := by kernel_rfl
theorem ze_114 : zeroOf Try.prog 114 = some [Value.nilFunc] := by kernel_rfl
theorem sz_115 : szOf Try.prog 115 = some 1 := by kernel_rfl
theorem ag_115 : aggOf Try.prog 115 = some false := by kernel_rfl
theorem by_115 : byOf Try.prog 115 = some 8 := by kernel_rfl
theorem ze_115 : zeroOf Try.prog 115 = some [Value.nilFunc] := by kernel_rfl
theorem sz_116 : szOf Try.prog 116 = some 1 := by kernel_rfl
theorem ag_116 : aggOf Try.prog 116 = some false := by kernel_rfl
theorem by_116 : byOf Try.prog 116 = some 0 := by kernel_rfl
theorem ze_116 : zeroOf Try.prog 116 = some [Value.tuple { toList := [Value.int IntKind.i64 0, Value.int IntKind.i64 0] }] := by kernel_rfl
theorem un_116 : Try.prog.underlying 116 = some (TypeDesc.tuple { toList := [2, 2] }) := by kernel_rfl
theorem sz_117 : szOf Try.prog 117 = some 1 := by kernel_rfl
theorem ag_117 : aggOf Try.prog 117 = some false := by kernel_rfl
theorem by_117 : byOf Try.prog 117 = some 8 := by kernel_rfl
theorem ze_117 : zeroOf Try.prog 117 = some [Value.nilFunc] := by kernel_rfl
theorem sz_118 : szOf Try.prog 118 = some 1 := by kernel_rfl
theorem ag_118 : aggOf Try.prog 118 = some false := by kernel_rfl
theorem by_118 : byOf Try.prog 118 = some 8 := by kernel_rfl
theorem ze_118 : zeroOf Try.prog 118 = some [Value.nilFunc] := by kernel_rfl
theorem sz_119 : szOf Try.prog 119 = some 1 := by kernel_rfl
theorem ag_119 : aggOf Try.prog 119 = some false := by kernel_rfl
theorem by_119 : byOf Try.prog 119 = some 8 := by kernel_rfl
theorem ze_119 : zeroOf Try.prog 119 = some [Value.nilFunc] := by kernel_rfl
theorem sz_120 : szOf Try.prog 120 = some 1 := by kernel_rfl
theorem ag_120 : aggOf Try.prog 120 = some false := by kernel_rfl
theorem by_120 : byOf Try.prog 120 = some 8 := by kernel_rfl
theorem ze_120 : zeroOf Try.prog 120 = some [Value.nilFunc] := by kernel_rfl
theorem sz_121 : szOf Try.prog 121 = some 1 := by kernel_rfl
theorem ag_121 : aggOf Try.prog 121 = some false := by kernel_rfl
theorem by_121 : byOf Try.prog 121 = some 8 := by kernel_rfl
theorem ze_121 : zeroOf Try.prog 121 = some [Value.nilFunc] := by kernel_rfl
theorem sz_122 : szOf Try.prog 122 = some 1 := by kernel_rfl
theorem ag_122 : aggOf Try.prog 122 = some false := by kernel_rfl
theorem by_122 : byOf Try.prog 122 = some 8 := by kernel_rfl
theorem ze_122 : zeroOf Try.prog 122 = some [Value.nilFunc] := by kernel_rfl
theorem sz_123 : szOf Try.prog 123 = some 1 := by kernel_rfl
theorem ag_123 : aggOf Try.prog 123 = some false := by kernel_rfl
theorem by_123 : byOf Try.prog 123 = some 8 := by kernel_rfl
theorem ze_123 : zeroOf Try.prog 123 = some [Value.nilFunc] := by kernel_rfl
theorem sz_124 : szOf Try.prog 124 = some 1 := by kernel_rfl
theorem ag_124 : aggOf Try.prog 124 = some false := by kernel_rfl
theorem by_124 : byOf Try.prog 124 = some 8 := by kernel_rfl
theorem ze_124 : zeroOf Try.prog 124 = some [Value.nilFunc] := by kernel_rfl
theorem sz_125 : szOf Try.prog 125 = some 1 := by kernel_rfl
theorem ag_125 : aggOf Try.prog 125 = some false := by kernel_rfl
theorem by_125 : byOf Try.prog 125 = some 8 := by kernel_rfl
theorem ze_125 : zeroOf Try.prog 125 = some [Value.nilFunc] := by kernel_rfl
theorem sz_126 : szOf Try.prog 126 = some 1 := by kernel_rfl
theorem ag_126 : aggOf Try.prog 126 = some false := by kernel_rfl
theorem by_126 : byOf Try.prog 126 = some 8 := by kernel_rfl
theorem ze_126 : zeroOf Try.prog 126 = some [Value.nilFunc] := by kernel_rfl
theorem sz_127 : szOf Try.prog 127 = some 1 := by kernel_rfl
theorem ag_127 : aggOf Try.prog 127 = some false := by kernel_rfl
theorem by_127 : byOf Try.prog 127 = some 8 := by kernel_rfl
theorem ze_127 : zeroOf Try.prog 127 = some [Value.nilFunc] := by kernel_rfl
theorem sz_128 : szOf Try.prog 128 = some 1 := by kernel_rfl
theorem ag_128 : aggOf Try.prog 128 = some false := by kernel_rfl
theorem by_128 : byOf Try.prog 128 = some 8 := by kernel_rfl
theorem ze_128 : zeroOf Try.prog 128 = some [Value.nilFunc] := by kernel_rfl
theorem sz_129 : szOf Try.prog 129 = some 1 := by kernel_rfl
theorem ag_129 : aggOf Try.prog 129 = some false := by kernel_rfl
theorem by_129 : byOf Try.prog 129 = some 8 := by kernel_rfl
theorem ze_129 : zeroOf Try.prog 129 = some [Value.nilFunc] := by kernel_rfl
theorem sz_130 : szOf Try.prog 130 = some 1 := by kernel_rfl
theorem ag_130 : aggOf Try.prog 130 = some false := by kernel_rfl
theorem by_130 : byOf Try.prog 130 = some 8 := by kernel_rfl
theorem ze_130 : zeroOf Try.prog 130 = some [Value.nilFunc] := by kernel_rfl
theorem sz_131 : szOf Try.prog 131 = some 1 := by kernel_rfl
theorem ag_131 : aggOf Try.prog 131 = some false := by kernel_rfl
theorem by_131 : byOf Try.prog 131 = some 8 := by kernel_rfl
theorem ze_131 : zeroOf Try.prog 131 = some [Value.nilFunc] := by kernel_rfl
theorem sz_132 : szOf Try.prog 132 = some 1 := by kernel_rfl
theorem ag_132 : aggOf Try.prog 132 = some false := by kernel_rfl
theorem by_132 : byOf Try.prog 132 = some 8 := by kernel_rfl
theorem ze_132 : zeroOf Try.prog 132 = some [Value.nilFunc] := by kernel_rfl
theorem sz_133 : szOf Try.prog 133 = some 1 := by kernel_rfl
theorem ag_133 : aggOf Try.prog 133 = some false := by kernel_rfl
theorem by_133 : byOf Try.prog 133 = some 8 := by kernel_rfl
theorem ze_133 : zeroOf Try.prog 133 = some [Value.nilFunc] := by kernel_rfl
theorem sz_134 : szOf Try.prog 134 = some 1 := by kernel_rfl
theorem ag_134 : aggOf Try.prog 134 = some false := by kernel_rfl
theorem sl_134 : slOf Try.prog 134 = some 91 := by kernel_rfl
theorem by_134 : byOf Try.prog 134 = some 24 := by kernel_rfl
theorem ze_134 : zeroOf Try.prog 134 = some [Value.slice none 0 0] := by kernel_rfl
theorem un_134 : Try.prog.underlying 134 = some (TypeDesc.slice 91) := by kernel_rfl
theorem sz_135 : szOf Try.prog 135 = some 1 := by kernel_rfl
theorem ag_135 : aggOf Try.prog 135 = some false := by kernel_rfl
theorem by_135 : byOf Try.prog 135 = some 8 := by kernel_rfl
theorem ze_135 : zeroOf Try.prog 135 = some [Value.nilFunc] := by kernel_rfl
theorem sz_136 : szOf Try.prog 136 = some 1 := by kernel_rfl
theorem ag_136 : aggOf Try.prog 136 = some false := by kernel_rfl
theorem by_136 : byOf Try.prog 136 = some 8 := by kernel_rfl
theorem ze_136 : zeroOf Try.prog 136 = some [Value.nilFunc] := by kernel_rfl
theorem sz_137 : szOf Try.prog 137 = some 4 := by kernel_rfl
theorem ag_137 : aggOf Try.prog 137 = some true := by kernel_rfl
theorem ar_137 : arrOf Try.prog 137 = some (4, 2) := by kernel_rfl
theorem by_137 : byOf Try.prog 137 = some 32 := by kernel_rfl
theorem pl_137 : plOf Try.prog 137 = some (PL.arr 1) := by kernel_rfl
theorem ze_137 : zeroOf Try.prog 137 = some [Value.int IntKind.i64 0, Value.int IntKind.i64 0, Value.int IntKind.i64 0, Value.int IntKind.i64 0] := by kernel_rfl
theorem un_137 : Try.prog.underlying 137 = some (TypeDesc.array 4 2) := by kernel_rfl
theorem sz_138 : szOf Try.prog 138 = some 1 := by kernel_rfl
theorem ag_138 : aggOf Try.prog 138 = some false := by kernel_rfl
theorem by_138 : byOf Try.prog 138 = some 8 := by kernel_rfl
theorem ze_138 : zeroOf Try.prog 138 = some [Value.nilFunc] := by kernel_rfl
theorem sz_139 : szOf Try.prog 139 = some 1 := by kernel_rfl
theorem ag_139 : aggOf Try.prog 139 = some false := by kernel_rfl
theorem by_139 : byOf Try.prog 139 = some 8 := by kernel_rfl
theorem ze_139 : zeroOf Try.prog 139 = some [Value.pointer none] := by kernel_rfl
theorem un_139 : Try.prog.underlying 139 = some (TypeDesc.pointer 80) := by kernel_rfl
theorem sz_140 : szOf Try.prog 140 = some 1 := by kernel_rfl
theorem ag_140 : aggOf Try.prog 140 = some false := by kernel_rfl
theorem by_140 : byOf Try.prog 140 = some 8 := by kernel_rfl
theorem ze_140 : zeroOf Try.prog 140 = some [Value.pointer none] := by kernel_rfl
theorem un_140 : Try.prog.underlying 140 = some (TypeDesc.pointer 82) := by kernel_rfl
theorem sz_141 : szOf Try.prog 141 = some 1 := by kernel_rfl
theorem ag_141 : aggOf Try.prog 141 = some false := by kernel_rfl
theorem by_141 : byOf Try.prog 141 = some 8 := by kernel_rfl
theorem ze_141 : zeroOf Try.prog 141 = some [Value.nilFunc] := by kernel_rfl
theorem sz_142 : szOf Try.prog 142 = some 1 := by kernel_rfl
theorem ag_142 : aggOf Try.prog 142 = some false := by kernel_rfl
theorem by_142 : byOf Try.prog 142 = some 8 := by kernel_rfl
theorem ze_142 : zeroOf Try.prog 142 = some [Value.nilFunc] := by kernel_rfl
theorem sz_143 : szOf Try.prog 143 = some 1 := by kernel_rfl
theorem ag_143 : aggOf Try.prog 143 = some false := by kernel_rfl
theorem by_143 : byOf Try.prog 143 = some 8 := by kernel_rfl
theorem ze_143 : zeroOf Try.prog 143 = some [Value.nilFunc] := by kernel_rfl
theorem sz_144 : szOf Try.prog 144 = some 1 := by kernel_rfl
theorem ag_144 : aggOf Try.prog 144 = some false := by kernel_rfl
theorem by_144 : byOf Try.prog 144 = some 8 := by kernel_rfl
theorem ze_144 : zeroOf Try.prog 144 = some [Value.nilFunc] := by kernel_rfl
theorem sz_145 : szOf Try.prog 145 = some 1 := by kernel_rfl
theorem ag_145 : aggOf Try.prog 145 = some false := by kernel_rfl
theorem by_145 : byOf Try.prog 145 = some 8 := by kernel_rfl
theorem ze_145 : zeroOf Try.prog 145 = some [Value.nilFunc] := by kernel_rfl
theorem sz_146 : szOf Try.prog 146 = some 1 := by kernel_rfl
theorem ag_146 : aggOf Try.prog 146 = some false := by kernel_rfl
theorem by_146 : byOf Try.prog 146 = some 8 := by kernel_rfl
theorem ze_146 : zeroOf Try.prog 146 = some [Value.nilFunc] := by kernel_rfl
theorem sz_147 : szOf Try.prog 147 = some 1 := by kernel_rfl
theorem ag_147 : aggOf Try.prog 147 = some false := by kernel_rfl
theorem by_147 : byOf Try.prog 147 = some 8 := by kernel_rfl
theorem ze_147 : zeroOf Try.prog 147 = some [Value.nilFunc] := by kernel_rfl
theorem sz_148 : szOf Try.prog 148 = some 1 := by kernel_rfl
theorem ag_148 : aggOf Try.prog 148 = some false := by kernel_rfl
theorem by_148 : byOf Try.prog 148 = some 8 := by kernel_rfl
theorem ze_148 : zeroOf Try.prog 148 = some [Value.nilFunc] := by kernel_rfl
theorem sz_149 : szOf Try.prog 149 = some 1 := by kernel_rfl
theorem ag_149 : aggOf Try.prog 149 = some false := by kernel_rfl
theorem by_149 : byOf Try.prog 149 = some 8 := by kernel_rfl
theorem ze_149 : zeroOf Try.prog 149 = some [Value.pointer none] := by kernel_rfl
theorem un_149 : Try.prog.underlying 149 = some (TypeDesc.pointer 96) := by kernel_rfl
theorem sz_150 : szOf Try.prog 150 = some 1 := by kernel_rfl
theorem ag_150 : aggOf Try.prog 150 = some false := by kernel_rfl
theorem by_150 : byOf Try.prog 150 = some 8 := by kernel_rfl
theorem ze_150 : zeroOf Try.prog 150 = some [Value.nilFunc] := by kernel_rfl
theorem sz_151 : szOf Try.prog 151 = some 1 := by kernel_rfl
theorem ag_151 : aggOf Try.prog 151 = some false := by kernel_rfl
theorem by_151 : byOf Try.prog 151 = some 8 := by kernel_rfl
theorem ze_151 : zeroOf Try.prog 151 = some [Value.int IntKind.i64 0] := by kernel_rfl
theorem un_151 : Try.prog.underlying 151 = some (TypeDesc.int IntKind.i64) := by kernel_rfl
theorem sz_152 : szOf Try.prog 152 = some 1 := by kernel_rfl
theorem ag_152 : aggOf Try.prog 152 = some false := by kernel_rfl
theorem by_152 : byOf Try.prog 152 = some 0 := by kernel_rfl
theorem ze_152 : zeroOf Try.prog 152 = some [Value.tuple { toList := [Value.int IntKind.i64 0, Value.int IntKind.i64 0] }] := by kernel_rfl
theorem un_152 : Try.prog.underlying 152 = some (TypeDesc.tuple { toList := [3, 151] }) := by kernel_rfl
theorem sz_153 : szOf Try.prog 153 = some 1 := by kernel_rfl
theorem ag_153 : aggOf Try.prog 153 = some false := by kernel_rfl
theorem by_153 : byOf Try.prog 153 = some 8 := by kernel_rfl
theorem ze_153 : zeroOf Try.prog 153 = some [Value.nilFunc] := by kernel_rfl
theorem sz_154 : szOf Try.prog 154 = some 1 := by kernel_rfl
theorem ag_154 : aggOf Try.prog 154 = some false := by kernel_rfl
theorem by_154 : byOf Try.prog 154 = some 8 := by kernel_rfl
theorem ze_154 : zeroOf Try.prog 154 = some [Value.nilFunc] := by kernel_rfl
theorem sz_155 : szOf Try.prog 155 = some 1 := by kernel_rfl
theorem ag_155 : aggOf Try.prog 155 = some false := by kernel_rfl
theorem by_155 : byOf Try.prog 155 = some 8 := by kernel_rfl
theorem ze_155 : zeroOf Try.prog 155 = some [Value.nilFunc] := by kernel_rfl
theorem sz_156 : szOf Try.prog 156 = some 1 := by kernel_rfl
theorem ag_156 : aggOf Try.prog 156 = some false := by kernel_rfl
theorem by_156 : byOf Try.prog 156 = some 0 := by kernel_rfl
theorem ze_156 : zeroOf Try.prog 156 = some [Value.tuple { toList := [Value.int IntKind.i64 0, Value.bool false] }] := by kernel_rfl
theorem un_156 : Try.prog.underlying 156 = some (TypeDesc.tuple { toList := [3, 4] }) := by kernel_rfl
theorem sz_157 : szOf Try.prog 157 = some 1 := by kernel_rfl
theorem ag_157 : aggOf Try.prog 157 = some false := by kernel_rfl
theorem by_157 : byOf Try.prog 157 = some 8 := by kernel_rfl
theorem ze_157 : zeroOf Try.prog 157 = some [Value.nilFunc] := by kernel_rfl
theorem sz_158 : szOf Try.prog 158 = some 1 := by kernel_rfl
theorem ag_158 : aggOf Try.prog 158 = some false := by kernel_rfl
theorem by_158 : byOf Try.prog 158 = some 8 := by kernel_rfl
theorem ze_158 : zeroOf Try.prog 158 = some [Value.nilFunc] := by kernel_rfl
theorem sz_159 : szOf Try.prog 159 = some 1 := by kernel_rfl
theorem ag_159 : aggOf Try.prog 159 = some false := by kernel_rfl
theorem by_159 : byOf Try.prog 159 = some 4 := by kernel_rfl
theorem ze_159 : zeroOf Try.prog 159 = some [Value.int IntKind.u32 0] := by kernel_rfl
theorem un_159 : Try.prog.underlying 159 = some (TypeDesc.int IntKind.u32) := by kernel_rfl
theorem sz_160 : szOf Try.prog 160 = some 1 := by kernel_rfl
theorem ag_160 : aggOf Try.prog 160 = some false := by kernel_rfl
theorem by_160 : byOf Try.prog 160 = some 8 := by kernel_rfl
theorem ze_160 : zeroOf Try.prog 160 = some [Value.nilFunc] := by kernel_rfl
theorem sz_161 : szOf Try.prog 161 = some 1 := by kernel_rfl
theorem ag_161 : aggOf Try.prog 161 = some false := by kernel_rfl
theorem by_161 : byOf Try.prog 161 = some 8 := by kernel_rfl
theorem ze_161 : zeroOf Try.prog 161 = some [Value.int IntKind.u64 0] := by kernel_rfl
theorem un_161 : Try.prog.underlying 161 = some (TypeDesc.int IntKind.u64) := by kernel_rfl
theorem sz_162 : szOf Try.prog 162 = some 6 := by kernel_rfl
theorem ag_162 : aggOf Try.prog 162 = some true := by kernel_rfl
theorem by_162 : byOf Try.prog 162 = some 48 := by kernel_rfl
theorem pl_162 : plOf Try.prog 162 = some (PL.str [(0, 1), (1, 1), (2, 1), (3, 1), (4, 1), (5, 1)]) := by kernel_rfl
theorem ze_162 : zeroOf Try.prog 162 = some [Value.int IntKind.i64 0, Value.int IntKind.i64 0, Value.int IntKind.i64 0, Value.int IntKind.i64 0, Value.int IntKind.i64 0, Value.int IntKind.i64 0] := by kernel_rfl
theorem eq_162 : eqOf Try.prog 162 = some [(0, false), (1, false), (2, false), (3, false), (4, false), (5, false)] := by kernel_rfl
theorem fl_162_0 : fldOf Try.prog 162 0 = some (0, 3, 1) := by kernel_rfl
theorem fl_162_1 : fldOf Try.prog 162 1 = some (1, 3, 1) := by kernel_rfl
theorem fl_162_2 : fldOf Try.prog 162 2 = some (2, 3, 1) := by kernel_rfl
theorem fl_162_3 : fldOf Try.prog 162 3 = some (3, 3, 1) := by kernel_rfl
theorem fl_162_4 : fldOf Try.prog 162 4 = some (4, 3, 1) := by kernel_rfl
theorem fl_162_5 : fldOf Try.prog 162 5 = some (5, 3, 1) := by kernel_rfl
theorem sz_163 : szOf Try.prog 163 = some 6 := by kernel_rfl
theorem ag_163 : aggOf Try.prog 163 = some true := by kernel_rfl
theorem by_163 : byOf Try.prog 163 = some 48 := by kernel_rfl
theorem pl_163 : plOf Try.prog 163 = some (PL.str [(0, 1), (1, 1), (2, 1), (3, 1), (4, 1), (5, 1)]) := by kernel_rfl
theorem ze_163 : zeroOf Try.prog 163 = some [Value.int IntKind.i64 0, Value.int IntKind.i64 0, Value.int IntKind.i64 0, Value.int IntKind.i64 0, Value.int IntKind.i64 0, Value.int IntKind.i64 0] := by kernel_rfl
theorem eq_163 : eqOf Try.prog 163 = some [(0, false), (1, false), (2, false), (3, false), (4, false), (5, false)] := by kernel_rfl
theorem fl_163_0 : fldOf Try.prog 163 0 = some (0, 3, 1) := by kernel_rfl
theorem fl_163_1 : fldOf Try.prog 163 1 = some (1, 3, 1) := by kernel_rfl
theorem fl_163_2 : fldOf Try.prog 163 2 = some (2, 3, 1) := by kernel_rfl
theorem fl_163_3 : fldOf Try.prog 163 3 = some (3, 3, 1) := by kernel_rfl
theorem fl_163_4 : fldOf Try.prog 163 4 = some (4, 3, 1) := by kernel_rfl
theorem fl_163_5 : fldOf Try.prog 163 5 = some (5, 3, 1) := by kernel_rfl
theorem sz_164 : szOf Try.prog 164 = some 1 := by kernel_rfl
theorem ag_164 : aggOf Try.prog 164 = some false := by kernel_rfl
theorem by_164 : byOf Try.prog 164 = some 8 := by kernel_rfl
theorem ze_164 : zeroOf Try.prog 164 = some [Value.nilFunc] := by kernel_rfl
theorem sz_165 : szOf Try.prog 165 = some 1 := by kernel_rfl
theorem ag_165 : aggOf Try.prog 165 = some false := by kernel_rfl
theorem by_165 : byOf Try.prog 165 = some 8 := by kernel_rfl
theorem ze_165 : zeroOf Try.prog 165 = some [Value.nilFunc] := by kernel_rfl
theorem sz_166 : szOf Try.prog 166 = some 1 := by kernel_rfl
theorem ag_166 : aggOf Try.prog 166 = some false := by kernel_rfl
theorem by_166 : byOf Try.prog 166 = some 8 := by kernel_rfl
theorem ze_166 : zeroOf Try.prog 166 = some [Value.int IntKind.u64 0] := by kernel_rfl
theorem un_166 : Try.prog.underlying 166 = some (TypeDesc.int IntKind.u64) := by kernel_rfl
theorem sz_167 : szOf Try.prog 167 = some 1 := by kernel_rfl
theorem ag_167 : aggOf Try.prog 167 = some false := by kernel_rfl
theorem by_167 : byOf Try.prog 167 = some 8 := by kernel_rfl
theorem ze_167 : zeroOf Try.prog 167 = some [Value.nilFunc] := by kernel_rfl
theorem sz_168 : szOf Try.prog 168 = some 1 := by kernel_rfl
theorem ag_168 : aggOf Try.prog 168 = some false := by kernel_rfl
theorem by_168 : byOf Try.prog 168 = some 8 := by kernel_rfl
theorem ze_168 : zeroOf Try.prog 168 = some [Value.nilFunc] := by kernel_rfl
theorem sz_169 : szOf Try.prog 169 = some 1 := by kernel_rfl
theorem ag_169 : aggOf Try.prog 169 = some false := by kernel_rfl
theorem by_169 : byOf Try.prog 169 = some 8 := by kernel_rfl
theorem ze_169 : zeroOf Try.prog 169 = some [Value.nilFunc] := by kernel_rfl
theorem sz_170 : szOf Try.prog 170 = some 1 := by kernel_rfl
theorem ag_170 : aggOf Try.prog 170 = some false := by kernel_rfl
theorem by_170 : byOf Try.prog 170 = some 8 := by kernel_rfl
theorem ze_170 : zeroOf Try.prog 170 = some [Value.nilFunc] := by kernel_rfl
theorem sz_171 : szOf Try.prog 171 = some 1 := by kernel_rfl
theorem ag_171 : aggOf Try.prog 171 = some false := by kernel_rfl
theorem by_171 : byOf Try.prog 171 = some 8 := by kernel_rfl
theorem ze_171 : zeroOf Try.prog 171 = some [Value.nilFunc] := by kernel_rfl
theorem sz_172 : szOf Try.prog 172 = some 1 := by kernel_rfl
theorem ag_172 : aggOf Try.prog 172 = some false := by kernel_rfl
theorem by_172 : byOf Try.prog 172 = some 8 := by kernel_rfl
theorem ze_172 : zeroOf Try.prog 172 = some [Value.nilFunc] := by kernel_rfl
theorem sz_173 : szOf Try.prog 173 = some 1 := by kernel_rfl
theorem ag_173 : aggOf Try.prog 173 = some false := by kernel_rfl
theorem by_173 : byOf Try.prog 173 = some 8 := by kernel_rfl
theorem ze_173 : zeroOf Try.prog 173 = some [Value.pointer none] := by kernel_rfl
theorem un_173 : Try.prog.underlying 173 = some (TypeDesc.pointer 166) := by kernel_rfl
theorem sz_174 : szOf Try.prog 174 = some 1 := by kernel_rfl
theorem ag_174 : aggOf Try.prog 174 = some false := by kernel_rfl
theorem by_174 : byOf Try.prog 174 = some 0 := by kernel_rfl
theorem ze_174 : zeroOf Try.prog 174 = some [Value.tuple { toList := [Value.int IntKind.i64 0, Value.int IntKind.i64 0] }] := by kernel_rfl
theorem un_174 : Try.prog.underlying 174 = some (TypeDesc.tuple { toList := [3, 3] }) := by kernel_rfl
theorem sz_175 : szOf Try.prog 175 = some 1 := by kernel_rfl
theorem ag_175 : aggOf Try.prog 175 = some false := by kernel_rfl
theorem by_175 : byOf Try.prog 175 = some 8 := by kernel_rfl
theorem ze_175 : zeroOf Try.prog 175 = some [Value.nilFunc] := by kernel_rfl
theorem sz_176 : szOf Try.prog 176 = some 1 := by kernel_rfl
theorem ag_176 : aggOf Try.prog 176 = some false := by kernel_rfl
theorem by_176 : byOf Try.prog 176 = some 8 := by kernel_rfl
theorem ze_176 : zeroOf Try.prog 176 = some [Value.nilFunc] := by kernel_rfl
theorem sz_177 : szOf Try.prog 177 = some 4 := by kernel_rfl
theorem ag_177 : aggOf Try.prog 177 = some true := by kernel_rfl
theorem by_177 : byOf Try.prog 177 = some 40 := by kernel_rfl
theorem pl_177 : plOf Try.prog 177 = some (PL.str [(0, 1), (1, 1), (2, 1), (3, 1)]) := by kernel_rfl
theorem ze_177 : zeroOf Try.prog 177 = some [Value.pointer none, Value.pointer none, Value.pointer none, Value.string { data := { toList := [] } }] := by kernel_rfl
theorem fl_177_0 : fldOf Try.prog 177 0 = some (0, 17, 1) := by kernel_rfl
theorem fl_177_1 : fldOf Try.prog 177 1 = some (1, 17, 1) := by kernel_rfl
theorem fl_177_2 : fldOf Try.prog 177 2 = some (2, 17, 1) := by kernel_rfl
theorem fl_177_3 : fldOf Try.prog 177 3 = some (3, 9, 1) := by kernel_rfl
theorem sz_178 : szOf Try.prog 178 = some 4 := by kernel_rfl
theorem ag_178 : aggOf Try.prog 178 = some true := by kernel_rfl
theorem by_178 : byOf Try.prog 178 = some 40 := by kernel_rfl
theorem pl_178 : plOf Try.prog 178 = some (PL.str [(0, 1), (1, 1), (2, 1), (3, 1)]) := by kernel_rfl
theorem ze_178 : zeroOf Try.prog 178 = some [Value.pointer none, Value.pointer none, Value.pointer none, Value.string { data := { toList := [] } }] := by kernel_rfl
theorem fl_178_0 : fldOf Try.prog 178 0 = some (0, 17, 1) := by kernel_rfl
theorem fl_178_1 : fldOf Try.prog 178 1 = some (1, 17, 1) := by kernel_rfl
theorem fl_178_2 : fldOf Try.prog 178 2 = some (2, 17, 1) := by kernel_rfl
theorem fl_178_3 : fldOf Try.prog 178 3 = some (3, 9, 1) := by kernel_rfl
theorem sz_179 : szOf Try.prog 179 = some 0 := by kernel_rfl
theorem ag_179 : aggOf Try.prog 179 = some true := by kernel_rfl
theorem ar_179 : arrOf Try.prog 179 = some (0, 16) := by kernel_rfl
theorem by_179 : byOf Try.prog 179 = some 0 := by kernel_rfl
theorem pl_179 : plOf Try.prog 179 = some (PL.arr 1) := by kernel_rfl
theorem ze_179 : zeroOf Try.prog 179 = some [] := by kernel_rfl
theorem un_179 : Try.prog.underlying 179 = some (TypeDesc.array 0 16) := by kernel_rfl
theorem sz_180 : szOf Try.prog 180 = some 0 := by kernel_rfl
theorem ag_180 : aggOf Try.prog 180 = some true := by kernel_rfl
theorem by_180 : byOf Try.prog 180 = some 0 := by kernel_rfl
theorem pl_180 : plOf Try.prog 180 = some (PL.str [(0, 0)]) := by kernel_rfl
theorem ze_180 : zeroOf Try.prog 180 = some [] := by kernel_rfl
theorem sz_181 : szOf Try.prog 181 = some 0 := by kernel_rfl
theorem ag_181 : aggOf Try.prog 181 = some true := by kernel_rfl
theorem by_181 : byOf Try.prog 181 = some 0 := by kernel_rfl
theorem pl_181 : plOf Try.prog 181 = some (PL.str [(0, 0)]) := by kernel_rfl
theorem ze_181 : zeroOf Try.prog 181 = some [] := by kernel_rfl
theorem sz_182 : szOf Try.prog 182 = some 1 := by kernel_rfl
theorem ag_182 : aggOf Try.prog 182 = some false := by kernel_rfl
theorem by_182 : byOf Try.prog 182 = some 1 := by kernel_rfl
theorem ze_182 : zeroOf Try.prog 182 = some [Value.int IntKind.u8 0] := by kernel_rfl
theorem un_182 : Try.prog.underlying 182 = some (TypeDesc.int IntKind.u8) := by kernel_rfl
theorem sz_183 : szOf Try.prog 183 = some 1 := by kernel_rfl
theorem ag_183 : aggOf Try.prog 183 = some false := by kernel_rfl
theorem by_183 : byOf Try.prog 183 = some 1 := by kernel_rfl
theorem ze_183 : zeroOf Try.prog 183 = some [Value.int IntKind.u8 0] := by kernel_rfl
theorem un_183 : Try.prog.underlying 183 = some (TypeDesc.int IntKind.u8) := by kernel_rfl
theorem sz_184 : szOf Try.prog 184 = some 1 := by kernel_rfl
theorem ag_184 : aggOf Try.prog 184 = some false := by kernel_rfl
theorem by_184 : byOf Try.prog 184 = some 8 := by kernel_rfl
theorem ze_184 : zeroOf Try.prog 184 = some [Value.nilFunc] := by kernel_rfl
theorem sz_185 : szOf Try.prog 185 = some 1 := by kernel_rfl
theorem ag_185 : aggOf Try.prog 185 = some false := by kernel_rfl
theorem by_185 : byOf Try.prog 185 = some 8 := by kernel_rfl
theorem ze_185 : zeroOf Try.prog 185 = some [Value.pointer none] := by kernel_rfl
theorem un_185 : Try.prog.underlying 185 = some (TypeDesc.pointer 5) := by kernel_rfl
theorem sz_186 : szOf Try.prog 186 = some 1 := by kernel_rfl
theorem ag_186 : aggOf Try.prog 186 = some false := by kernel_rfl
theorem by_186 : byOf Try.prog 186 = some 4 := by kernel_rfl
theorem ze_186 : zeroOf Try.prog 186 = some [Value.int IntKind.i32 0] := by kernel_rfl
theorem un_186 : Try.prog.underlying 186 = some (TypeDesc.int IntKind.i32) := by kernel_rfl
theorem sz_187 : szOf Try.prog 187 = some 1 := by kernel_rfl
theorem ag_187 : aggOf Try.prog 187 = some false := by kernel_rfl
theorem by_187 : byOf Try.prog 187 = some 4 := by kernel_rfl
theorem ze_187 : zeroOf Try.prog 187 = some [Value.int IntKind.i32 0] := by kernel_rfl
theorem un_187 : Try.prog.underlying 187 = some (TypeDesc.int IntKind.i32) := by kernel_rfl
theorem sz_188 : szOf Try.prog 188 = some 11 := by kernel_rfl
theorem ag_188 : aggOf Try.prog 188 = some true := by kernel_rfl
theorem by_188 : byOf Try.prog 188 = some 48 := by kernel_rfl
theorem pl_188 : plOf Try.prog 188 = some (PL.str [(0, 1), (1, 1), (2, 1), (3, 1), (4, 1), (5, 1), (6, 1), (7, 1), (8, 1), (9, 1), (10, 1)]) := by kernel_rfl
theorem ze_188 : zeroOf Try.prog 188 = some [Value.int IntKind.u64 0, Value.int IntKind.u64 0, Value.int IntKind.u32 0, Value.int IntKind.u8 0, Value.int IntKind.u8 0, Value.int IntKind.u8 0, Value.int IntKind.u8 0, Value.nilFunc, Value.pointer none, Value.int IntKind.i32 0, Value.int IntKind.i32 0] := by kernel_rfl
theorem fl_188_0 : fldOf Try.prog 188 0 = some (0, 12, 1) := by kernel_rfl
theorem fl_188_1 : fldOf Try.prog 188 1 = some (1, 12, 1) := by kernel_rfl
theorem fl_188_2 : fldOf Try.prog 188 2 = some (2, 159, 1) := by kernel_rfl
theorem fl_188_3 : fldOf Try.prog 188 3 = some (3, 182, 1) := by kernel_rfl
theorem fl_188_4 : fldOf Try.prog 188 4 = some (4, 5, 1) := by kernel_rfl
theorem fl_188_5 : fldOf Try.prog 188 5 = some (5, 5, 1) := by kernel_rfl
theorem fl_188_6 : fldOf Try.prog 188 6 = some (6, 183, 1) := by kernel_rfl
theorem fl_188_7 : fldOf Try.prog 188 7 = some (7, 184, 1) := by kernel_rfl
theorem fl_188_8 : fldOf Try.prog 188 8 = some (8, 185, 1) := by kernel_rfl
theorem fl_188_9 : fldOf Try.prog 188 9 = some (9, 186, 1) := by kernel_rfl
theorem fl_188_10 : fldOf Try.prog 188 10 = some (10, 187, 1) := by kernel_rfl
theorem sz_189 : szOf Try.prog 189 = some 11 := by kernel_rfl
theorem ag_189 : aggOf Try.prog 189 = some true := by kernel_rfl
theorem by_189 : byOf Try.prog 189 = some 48 := by kernel_rfl
theorem pl_189 : plOf Try.prog 189 = some (PL.str [(0, 1), (1, 1), (2, 1), (3, 1), (4, 1), (5, 1), (6, 1), (7, 1), (8, 1), (9, 1), (10, 1)]) := by kernel_rfl
theorem ze_189 : zeroOf Try.prog 189 = some [Value.int IntKind.u64 0, Value.int IntKind.u64 0, Value.int IntKind.u32 0, Value.int IntKind.u8 0, Value.int IntKind.u8 0, Value.int IntKind.u8 0, Value.int IntKind.u8 0, Value.nilFunc, Value.pointer none, Value.int IntKind.i32 0, Value.int IntKind.i32 0] := by kernel_rfl
theorem fl_189_0 : fldOf Try.prog 189 0 = some (0, 12, 1) := by kernel_rfl
theorem fl_189_1 : fldOf Try.prog 189 1 = some (1, 12, 1) := by kernel_rfl
theorem fl_189_2 : fldOf Try.prog 189 2 = some (2, 159, 1) := by kernel_rfl
theorem fl_189_3 : fldOf Try.prog 189 3 = some (3, 182, 1) := by kernel_rfl
theorem fl_189_4 : fldOf Try.prog 189 4 = some (4, 5, 1) := by kernel_rfl
theorem fl_189_5 : fldOf Try.prog 189 5 = some (5, 5, 1) := by kernel_rfl
theorem fl_189_6 : fldOf Try.prog 189 6 = some (6, 183, 1) := by kernel_rfl
theorem fl_189_7 : fldOf Try.prog 189 7 = some (7, 184, 1) := by kernel_rfl
theorem fl_189_8 : fldOf Try.prog 189 8 = some (8, 185, 1) := by kernel_rfl
theorem fl_189_9 : fldOf Try.prog 189 9 = some (9, 186, 1) := by kernel_rfl
theorem fl_189_10 : fldOf Try.prog 189 10 = some (10, 187, 1) := by kernel_rfl
theorem sz_190 : szOf Try.prog 190 = some 1 := by kernel_rfl
theorem ag_190 : aggOf Try.prog 190 = some false := by kernel_rfl
theorem by_190 : byOf Try.prog 190 = some 8 := by kernel_rfl
theorem ze_190 : zeroOf Try.prog 190 = some [Value.nilFunc] := by kernel_rfl
theorem sz_191 : szOf Try.prog 191 = some 1 := by kernel_rfl
theorem ag_191 : aggOf Try.prog 191 = some false := by kernel_rfl
theorem by_191 : byOf Try.prog 191 = some 8 := by kernel_rfl
theorem ze_191 : zeroOf Try.prog 191 = some [Value.pointer none] := by kernel_rfl
theorem un_191 : Try.prog.underlying 191 = some TypeDesc.unsafePointer := by kernel_rfl
theorem pf_2 : plainFn Try.prog 2 = true := by kernel_rfl
theorem pf_3 : plainFn Try.prog 3 = true := by kernel_rfl
theorem pf_4 : plainFn Try.prog 4 = true := by kernel_rfl
theorem pf_5 : plainFn Try.prog 5 = true := by kernel_rfl
theorem pf_6 : plainFn Try.prog 6 = true := by kernel_rfl
theorem pf_7 : plainFn Try.prog 7 = true := by kernel_rfl
theorem pf_8 : plainFn Try.prog 8 = true := by kernel_rfl
theorem pf_9 : plainFn Try.prog 9 = true := by kernel_rfl
theorem pf_10 : plainFn Try.prog 10 = true := by kernel_rfl
theorem pf_11 : plainFn Try.prog 11 = true := by kernel_rfl
theorem pf_12 : plainFn Try.prog 12 = true := by kernel_rfl
theorem pf_13 : plainFn Try.prog 13 = true := by kernel_rfl
theorem pf_14 : plainFn Try.prog 14 = true := by kernel_rfl
theorem pf_15 : plainFn Try.prog 15 = true := by kernel_rfl
theorem pf_16 : plainFn Try.prog 16 = true := by kernel_rfl
theorem pf_17 : plainFn Try.prog 17 = true := by kernel_rfl
theorem pf_18 : plainFn Try.prog 18 = true := by kernel_rfl
theorem pf_19 : plainFn Try.prog 19 = true := by kernel_rfl
theorem pf_20 : plainFn Try.prog 20 = true := by kernel_rfl
theorem pf_21 : plainFn Try.prog 21 = true := by kernel_rfl
theorem pf_22 : plainFn Try.prog 22 = true := by kernel_rfl
theorem pf_23 : plainFn Try.prog 23 = true := by kernel_rfl
theorem pf_24 : plainFn Try.prog 24 = true := by kernel_rfl
theorem pf_25 : plainFn Try.prog 25 = true := by kernel_rfl
theorem pf_26 : plainFn Try.prog 26 = true := by kernel_rfl
theorem pf_27 : plainFn Try.prog 27 = true := by kernel_rfl
theorem pf_28 : plainFn Try.prog 28 = true := by kernel_rfl
theorem pf_29 : plainFn Try.prog 29 = true := by kernel_rfl
theorem pf_30 : plainFn Try.prog 30 = true := by kernel_rfl
theorem pf_31 : plainFn Try.prog 31 = true := by kernel_rfl
theorem pf_32 : plainFn Try.prog 32 = true := by kernel_rfl
theorem pf_33 : plainFn Try.prog 33 = true := by kernel_rfl
theorem pf_34 : plainFn Try.prog 34 = true := by kernel_rfl
theorem pf_35 : plainFn Try.prog 35 = true := by kernel_rfl
theorem pf_36 : plainFn Try.prog 36 = true := by kernel_rfl
theorem pf_37 : plainFn Try.prog 37 = true := by kernel_rfl
theorem pf_38 : plainFn Try.prog 38 = true := by kernel_rfl
theorem pf_39 : plainFn Try.prog 39 = true := by kernel_rfl
theorem pf_40 : plainFn Try.prog 40 = true := by kernel_rfl
theorem pf_41 : plainFn Try.prog 41 = true := by kernel_rfl
theorem pf_42 : plainFn Try.prog 42 = true := by kernel_rfl
theorem pf_43 : plainFn Try.prog 43 = true := by kernel_rfl
theorem pf_44 : plainFn Try.prog 44 = true := by kernel_rfl
theorem pf_45 : plainFn Try.prog 45 = true := by kernel_rfl
theorem pf_46 : plainFn Try.prog 46 = true := by kernel_rfl
theorem pf_47 : plainFn Try.prog 47 = true := by kernel_rfl
theorem pf_48 : plainFn Try.prog 48 = true := by kernel_rfl
theorem pf_49 : plainFn Try.prog 49 = true := by kernel_rfl
theorem pf_50 : plainFn Try.prog 50 = true := by kernel_rfl
theorem pf_51 : plainFn Try.prog 51 = true := by kernel_rfl
theorem pf_52 : plainFn Try.prog 52 = true := by kernel_rfl
theorem pf_53 : plainFn Try.prog 53 = true := by kernel_rfl
theorem pf_54 : plainFn Try.prog 54 = true := by kernel_rfl
theorem pf_55 : plainFn Try.prog 55 = true := by kernel_rfl
theorem pf_56 : plainFn Try.prog 56 = true := by kernel_rfl
theorem pf_57 : plainFn Try.prog 57 = true := by kernel_rfl
theorem pf_58 : plainFn Try.prog 58 = true := by kernel_rfl
theorem pf_59 : plainFn Try.prog 59 = true := by kernel_rfl
theorem pf_60 : plainFn Try.prog 60 = true := by kernel_rfl
theorem pf_61 : plainFn Try.prog 61 = true := by kernel_rfl
theorem pf_62 : plainFn Try.prog 62 = true := by kernel_rfl
theorem pf_63 : plainFn Try.prog 63 = true := by kernel_rfl
theorem pf_64 : plainFn Try.prog 64 = true := by kernel_rfl
theorem pf_65 : plainFn Try.prog 65 = true := by kernel_rfl
theorem pf_66 : plainFn Try.prog 66 = true := by kernel_rfl
theorem pf_67 : plainFn Try.prog 67 = true := by kernel_rfl
theorem pf_68 : plainFn Try.prog 68 = true := by kernel_rfl
theorem pf_69 : plainFn Try.prog 69 = true := by kernel_rfl
theorem pf_70 : plainFn Try.prog 70 = true := by kernel_rfl
theorem pf_71 : plainFn Try.prog 71 = true := by kernel_rfl
theorem pf_72 : plainFn Try.prog 72 = true := by kernel_rfl
theorem pf_73 : plainFn Try.prog 73 = true := by kernel_rfl
theorem pf_74 : plainFn Try.prog 74 = true := by kernel_rfl
theorem pf_75 : plainFn Try.prog 75 = true := by kernel_rfl
theorem pf_76 : plainFn Try.prog 76 = true := by kernel_rfl
theorem pf_77 : plainFn Try.prog 77 = true := by kernel_rfl
theorem pf_78 : plainFn Try.prog 78 = true := by kernel_rfl
theorem pf_79 : plainFn Try.prog 79 = true := by kernel_rfl
theorem pf_80 : plainFn Try.prog 80 = true := by kernel_rfl
theorem pf_81 : plainFn Try.prog 81 = true := by kernel_rfl
theorem pf_82 : plainFn Try.prog 82 = true := by kernel_rfl
theorem pf_83 : plainFn Try.prog 83 = true := by kernel_rfl
theorem pf_84 : plainFn Try.prog 84 = true := by kernel_rfl
theorem pf_85 : plainFn Try.prog 85 = true := by kernel_rfl
theorem pf_86 : plainFn Try.prog 86 = true := by kernel_rfl
theorem pf_87 : plainFn Try.prog 87 = true := by kernel_rfl
theorem pf_88 : plainFn Try.prog 88 = true := by kernel_rfl
theorem pf_89 : plainFn Try.prog 89 = true := by kernel_rfl
theorem pf_90 : plainFn Try.prog 90 = true := by kernel_rfl
theorem pf_91 : plainFn Try.prog 91 = true := by kernel_rfl
theorem pf_92 : plainFn Try.prog 92 = true := by kernel_rfl
theorem pf_93 : plainFn Try.prog 93 = true := by kernel_rfl
theorem pf_94 : plainFn Try.prog 94 = true := by kernel_rfl
theorem pf_95 : plainFn Try.prog 95 = true := by kernel_rfl
theorem pf_96 : plainFn Try.prog 96 = true := by kernel_rfl
theorem pf_97 : plainFn Try.prog 97 = true := by kernel_rfl
theorem pf_98 : plainFn Try.prog 98 = true := by kernel_rfl
theorem pf_99 : plainFn Try.prog 99 = true := by kernel_rfl
theorem pf_100 : plainFn Try.prog 100 = true := by kernel_rfl
theorem pf_101 : plainFn Try.prog 101 = true := by kernel_rfl
theorem pf_102 : plainFn Try.prog 102 = true := by kernel_rfl
theorem pf_103 : plainFn Try.prog 103 = true := by kernel_rfl
theorem pf_104 : plainFn Try.prog 104 = true := by kernel_rfl
theorem pf_105 : plainFn Try.prog 105 = true := by kernel_rfl
theorem pf_106 : plainFn Try.prog 106 = true := by kernel_rfl
theorem pf_107 : plainFn Try.prog 107 = true := by kernel_rfl
theorem pf_108 : plainFn Try.prog 108 = true := by kernel_rfl
theorem pf_109 : plainFn Try.prog 109 = true := by kernel_rfl
theorem pf_110 : plainFn Try.prog 110 = true := by kernel_rfl
theorem pf_111 : plainFn Try.prog 111 = true := by kernel_rfl
theorem pf_112 : plainFn Try.prog 112 = true := by kernel_rfl
theorem pf_113 : plainFn Try.prog 113 = true := by kernel_rfl
theorem pf_114 : plainFn Try.prog 114 = true := by kernel_rfl
theorem pf_115 : plainFn Try.prog 115 = true := by kernel_rfl
theorem pf_116 : plainFn Try.prog 116 = true := by kernel_rfl
theorem pf_117 : plainFn Try.prog 117 = true := by kernel_rfl
theorem pf_118 : plainFn Try.prog 118 = true := by kernel_rfl
theorem pf_119 : plainFn Try.prog 119 = true := by kernel_rfl
theorem pf_120 : plainFn Try.prog 120 = true := by kernel_rfl
theorem pf_121 : plainFn Try.prog 121 = true := by kernel_rfl
theorem pf_122 : plainFn Try.prog 122 = true := by kernel_rfl
theorem pf_123 : plainFn Try.prog 123 = true := by kernel_rfl
theorem pf_124 : plainFn Try.prog 124 = true := by kernel_rfl
theorem pf_125 : plainFn Try.prog 125 = true := by kernel_rfl
theorem pf_126 : plainFn Try.prog 126 = true := by kernel_rfl
theorem pf_127 : plainFn Try.prog 127 = true := by kernel_rfl
theorem pf_128 : plainFn Try.prog 128 = true := by kernel_rfl
theorem pf_129 : plainFn Try.prog 129 = true := by kernel_rfl
theorem pf_130 : plainFn Try.prog 130 = true := by kernel_rfl
theorem pf_131 : plainFn Try.prog 131 = true := by kernel_rfl
theorem pf_132 : plainFn Try.prog 132 = true := by kernel_rfl
theorem pf_133 : plainFn Try.prog 133 = true := by kernel_rfl
theorem mixed : Try.prog.follows .mixedOrders = true := by kernel_rfl
attribute [go_sem] sz_0 ag_0 by_0 ze_0 un_0 sz_1 ag_1 by_1 ze_1 sz_2 ag_2 by_2 ze_2 un_2 sz_3 ag_3 by_3 ze_3 un_3 sz_4 ag_4 by_4 ze_4 un_4 sz_5 ag_5 by_5 ze_5 un_5 sz_6 ag_6 by_6 ze_6 un_6 sz_7 ag_7 by_7 pl_7 ze_7 eq_7 fl_7_0 fl_7_1 fl_7_2 fl_7_3 sz_8 ag_8 by_8 pl_8 ze_8 eq_8 fl_8_0 fl_8_1 fl_8_2 fl_8_3 sz_9 ag_9 by_9 ze_9 un_9 sz_10 ag_10 by_10 ze_10 un_10 sz_11 ag_11 by_11 ze_11 un_11 sz_12 ag_12 by_12 ze_12 un_12 sz_13 ag_13 by_13 pl_13 ze_13 fl_13_0 fl_13_1 sz_14 ag_14 by_14 pl_14 ze_14 fl_14_0 fl_14_1 sz_15 ag_15 by_15 ze_15 un_15 sz_16 ag_16 by_16 ze_16 un_16 sz_17 ag_17 by_17 ze_17 un_17 sz_18 ag_18 by_18 pl_18 ze_18 fl_18_0 sz_19 ag_19 by_19 pl_19 ze_19 fl_19_0 sz_20 ag_20 by_20 ze_20 un_20 sz_21 ag_21 by_21 ze_21 un_21 sz_22 ag_22 sl_22 by_22 ze_22 un_22 sz_23 ag_23 by_23 pl_23 ze_23 fl_23_0 fl_23_1 sz_24 ag_24 by_24 pl_24 ze_24 fl_24_0 fl_24_1 sz_25 ag_25 ar_25 by_25 pl_25 ze_25 un_25 sz_26 ag_26 by_26 ze_26 un_26 sz_27 ag_27 by_27 ze_27 un_27 sz_28 ag_28 by_28 ze_28 sz_29 ag_29 by_29 ze_29 sz_30 ag_30 by_30 ze_30 un_30 sz_31 ag_31 by_31 ze_31 sz_32 ag_32 by_32 pl_32 ze_32 eq_32 fl_32_0 fl_32_1 fl_32_2 sz_33 ag_33 by_33 pl_33 ze_33 eq_33 fl_33_0 fl_33_1 fl_33_2 sz_34 ag_34 by_34 ze_34 un_34 sz_35 ag_35 by_35 ze_35 sz_36 ag_36 by_36 pl_36 ze_36 eq_36 fl_36_0 fl_36_1 fl_36_2 fl_36_3 fl_36_4 fl_36_5 fl_36_6 fl_36_7 fl_36_8 fl_36_9 sz_37 ag_37 by_37 pl_37 ze_37 eq_37 fl_37_0 fl_37_1 fl_37_2 fl_37_3 fl_37_4 fl_37_5 fl_37_6 fl_37_7 fl_37_8 fl_37_9 sz_38 ag_38 by_38 ze_38 un_38 sz_39 ag_39 by_39 ze_39 sz_40 ag_40 by_40 ze_40 un_40 sz_41 ag_41 by_41 ze_41 sz_42 ag_42 by_42 ze_42 sz_43 ag_43 by_43 ze_43 sz_44 ag_44 sl_44 by_44 ze_44 un_44 sz_45 ag_45 by_45 pl_45 ze_45 fl_45_0 fl_45_1 fl_45_2 fl_45_3 fl_45_4 sz_46 ag_46 by_46 pl_46 ze_46 fl_46_0 fl_46_1 fl_46_2 fl_46_3 fl_46_4 sz_47 ag_47 by_47 ze_47 un_47 sz_48 ag_48 by_48 ze_48 sz_49 ag_49 by_49 ze_49 sz_50 ag_50 by_50 ze_50 sz_51 ag_51 by_51 ze_51 sz_52 ag_52 by_52 ze_52 sz_53 ag_53 by_53 ze_53 un_53 sz_54 ag_54 by_54 ze_54 sz_55 ag_55 by_55 ze_55 sz_56 ag_56 by_56 ze_56 sz_57 ag_57 by_57 ze_57 sz_58 ag_58 by_58 ze_58 sz_59 ag_59 by_59 ze_59 sz_60 ag_60 sl_60 by_60 ze_60 un_60 sz_61 ag_61 by_61 pl_61 ze_61 fl_61_0 fl_61_1 sz_62 ag_62 by_62 pl_62 ze_62 fl_62_0 fl_62_1 sz_63 ag_63 by_63 ze_63 sz_64 ag_64 by_64 ze_64 sz_65 ag_65 sl_65 by_65 ze_65 un_65 sz_66 ag_66 by_66 ze_66 sz_67 ag_67 by_67 ze_67 un_67 sz_68 ag_68 by_68 ze_68 un_68 sz_69 ag_69 by_69 pl_69 ze_69 fl_69_0 fl_69_1 sz_70 ag_70 by_70 pl_70 ze_70 fl_70_0 fl_70_1 sz_71 ag_71 by_71 ze_71 sz_72 ag_72 by_72 ze_72 un_72 sz_73 ag_73 by_73 ze_73 sz_74 ag_74 by_74 ze_74 sz_75 ag_75 by_75 ze_75 sz_76 ag_76 by_76 ze_76 sz_77 ag_77 sl_77 by_77 ze_77 un_77 sz_78 ag_78 sl_78 by_78 ze_78 un_78 sz_79 ag_79 by_79 pl_79 ze_79 fl_79_0 fl_79_1 fl_79_2 fl_79_3 fl_79_4 fl_79_5 sz_80 ag_80 by_80 pl_80 ze_80 fl_80_0 fl_80_1 fl_80_2 fl_80_3 fl_80_4 fl_80_5 sz_81 ag_81 by_81 pl_81 ze_81 fl_81_0 fl_81_1 fl_81_2 fl_81_3 fl_81_4 fl_81_5 fl_81_6 fl_81_7 fl_81_8 fl_81_9 fl_81_10 sz_82 ag_82 by_82 pl_82 ze_82 fl_82_0 fl_82_1 fl_82_2 fl_82_3 fl_82_4 fl_82_5 fl_82_6 fl_82_7 fl_82_8 fl_82_9 fl_82_10 sz_83 ag_83 by_83 ze_83 un_83 sz_84 ag_84 by_84 ze_84 sz_85 ag_85 by_85 ze_85 sz_86 ag_86 by_86 ze_86 un_86 sz_87 ag_87 by_87 ze_87 un_87 sz_88 ag_88 by_88 ze_88 sz_89 ag_89 by_89 ze_89 sz_90 ag_90 by_90 pl_90 ze_90 eq_90 fl_90_0 fl_90_1 sz_91 ag_91 by_91 pl_91 ze_91 eq_91 fl_91_0 fl_91_1 sz_92 ag_92 by_92 pl_92 ze_92 fl_92_0 fl_92_1 sz_93 ag_93 by_93 pl_93 ze_93 fl_93_0 fl_93_1 sz_94 ag_94 sl_94 by_94 ze_94 un_94 sz_95 ag_95 by_95 pl_95 ze_95 fl_95_0 sz_96 ag_96 by_96 pl_96 ze_96 fl_96_0 sz_97 ag_97 by_97 ze_97 un_97 sz_98 ag_98 by_98 ze_98 un_98 sz_99 ag_99 by_99 pl_99 ze_99 fl_99_0 fl_99_1 fl_99_2 fl_99_3 fl_99_4 fl_99_5 fl_99_6 fl_99_7 fl_99_8 sz_100 ag_100 by_100 pl_100 ze_100 fl_100_0 fl_100_1 fl_100_2 fl_100_3 fl_100_4 fl_100_5 fl_100_6 fl_100_7 fl_100_8 sz_101 ag_101 by_101 ze_101 sz_102 ag_102 by_102 ze_102 sz_103 ag_103 by_103 ze_103 sz_104 ag_104 by_104 ze_104 sz_105 ag_105 by_105 ze_105 sz_106 ag_106 by_106 ze_106 sz_107 ag_107 by_107 pl_107 ze_107 fl_107_0 fl_107_1 fl_107_2 fl_107_3 sz_108 ag_108 by_108 pl_108 ze_108 fl_108_0 fl_108_1 fl_108_2 fl_108_3 sz_109 ag_109 by_109 ze_109 un_109 sz_110 ag_110 by_110 ze_110 sz_111 ag_111 by_111 ze_111 sz_112 ag_112 by_112 ze_112 sz_113 ag_113 by_113 ze_113 sz_114 ag_114 by_114 ze_114 sz_115 ag_115 by_115 ze_115 sz_116 ag_116 by_116 ze_116 un_116 sz_117 ag_117 by_117 ze_117 sz_118 ag_118 by_118 ze_118 sz_119 ag_119 by_119 ze_119 sz_120 ag_120 by_120 ze_120 sz_121 ag_121 by_121 ze_121 sz_122 ag_122 by_122 ze_122 sz_123 ag_123 by_123 ze_123 sz_124 ag_124 by_124 ze_124 sz_125 ag_125 by_125 ze_125 sz_126 ag_126 by_126 ze_126 sz_127 ag_127 by_127 ze_127 sz_128 ag_128 by_128 ze_128 sz_129 ag_129 by_129 ze_129 sz_130 ag_130 by_130 ze_130 sz_131 ag_131 by_131 ze_131 sz_132 ag_132 by_132 ze_132 sz_133 ag_133 by_133 ze_133 sz_134 ag_134 sl_134 by_134 ze_134 un_134 sz_135 ag_135 by_135 ze_135 sz_136 ag_136 by_136 ze_136 sz_137 ag_137 ar_137 by_137 pl_137 ze_137 un_137 sz_138 ag_138 by_138 ze_138 sz_139 ag_139 by_139 ze_139 un_139 sz_140 ag_140 by_140 ze_140 un_140 sz_141 ag_141 by_141 ze_141 sz_142 ag_142 by_142 ze_142 sz_143 ag_143 by_143 ze_143 sz_144 ag_144 by_144 ze_144 sz_145 ag_145 by_145 ze_145 sz_146 ag_146 by_146 ze_146 sz_147 ag_147 by_147 ze_147 sz_148 ag_148 by_148 ze_148 sz_149 ag_149 by_149 ze_149 un_149 sz_150 ag_150 by_150 ze_150 sz_151 ag_151 by_151 ze_151 un_151 sz_152 ag_152 by_152 ze_152 un_152 sz_153 ag_153 by_153 ze_153 sz_154 ag_154 by_154 ze_154 sz_155 ag_155 by_155 ze_155 sz_156 ag_156 by_156 ze_156 un_156 sz_157 ag_157 by_157 ze_157 sz_158 ag_158 by_158 ze_158 sz_159 ag_159 by_159 ze_159 un_159 sz_160 ag_160 by_160 ze_160 sz_161 ag_161 by_161 ze_161 un_161 sz_162 ag_162 by_162 pl_162 ze_162 eq_162 fl_162_0 fl_162_1 fl_162_2 fl_162_3 fl_162_4 fl_162_5 sz_163 ag_163 by_163 pl_163 ze_163 eq_163 fl_163_0 fl_163_1 fl_163_2 fl_163_3 fl_163_4 fl_163_5 sz_164 ag_164 by_164 ze_164 sz_165 ag_165 by_165 ze_165 sz_166 ag_166 by_166 ze_166 un_166 sz_167 ag_167 by_167 ze_167 sz_168 ag_168 by_168 ze_168 sz_169 ag_169 by_169 ze_169 sz_170 ag_170 by_170 ze_170 sz_171 ag_171 by_171 ze_171 sz_172 ag_172 by_172 ze_172 sz_173 ag_173 by_173 ze_173 un_173 sz_174 ag_174 by_174 ze_174 un_174 sz_175 ag_175 by_175 ze_175 sz_176 ag_176 by_176 ze_176 sz_177 ag_177 by_177 pl_177 ze_177 fl_177_0 fl_177_1 fl_177_2 fl_177_3 sz_178 ag_178 by_178 pl_178 ze_178 fl_178_0 fl_178_1 fl_178_2 fl_178_3 sz_179 ag_179 ar_179 by_179 pl_179 ze_179 un_179 sz_180 ag_180 by_180 pl_180 ze_180 sz_181 ag_181 by_181 pl_181 ze_181 sz_182 ag_182 by_182 ze_182 un_182 sz_183 ag_183 by_183 ze_183 un_183 sz_184 ag_184 by_184 ze_184 sz_185 ag_185 by_185 ze_185 un_185 sz_186 ag_186 by_186 ze_186 un_186 sz_187 ag_187 by_187 ze_187 un_187 sz_188 ag_188 by_188 pl_188 ze_188 fl_188_0 fl_188_1 fl_188_2 fl_188_3 fl_188_4 fl_188_5 fl_188_6 fl_188_7 fl_188_8 fl_188_9 fl_188_10 sz_189 ag_189 by_189 pl_189 ze_189 fl_189_0 fl_189_1 fl_189_2 fl_189_3 fl_189_4 fl_189_5 fl_189_6 fl_189_7 fl_189_8 fl_189_9 fl_189_10 sz_190 ag_190 by_190 ze_190 sz_191 ag_191 by_191 ze_191 un_191 pf_2 pf_3 pf_4 pf_5 pf_6 pf_7 pf_8 pf_9 pf_10 pf_11 pf_12 pf_13 pf_14 pf_15 pf_16 pf_17 pf_18 pf_19 pf_20 pf_21 pf_22 pf_23 pf_24 pf_25 pf_26 pf_27 pf_28 pf_29 pf_30 pf_31 pf_32 pf_33 pf_34 pf_35 pf_36 pf_37 pf_38 pf_39 pf_40 pf_41 pf_42 pf_43 pf_44 pf_45 pf_46 pf_47 pf_48 pf_49 pf_50 pf_51 pf_52 pf_53 pf_54 pf_55 pf_56 pf_57 pf_58 pf_59 pf_60 pf_61 pf_62 pf_63 pf_64 pf_65 pf_66 pf_67 pf_68 pf_69 pf_70 pf_71 pf_72 pf_73 pf_74 pf_75 pf_76 pf_77 pf_78 pf_79 pf_80 pf_81 pf_82 pf_83 pf_84 pf_85 pf_86 pf_87 pf_88 pf_89 pf_90 pf_91 pf_92 pf_93 pf_94 pf_95 pf_96 pf_97 pf_98 pf_99 pf_100 pf_101 pf_102 pf_103 pf_104 pf_105 pf_106 pf_107 pf_108 pf_109 pf_110 pf_111 pf_112 pf_113 pf_114 pf_115 pf_116 pf_117 pf_118 pf_119 pf_120 pf_121 pf_122 pf_123 pf_124 pf_125 pf_126 pf_127 pf_128 pf_129 pf_130 pf_131 pf_132 pf_133
end Pm
end Go.Proofs.Ytiipggfhjkalfaa
