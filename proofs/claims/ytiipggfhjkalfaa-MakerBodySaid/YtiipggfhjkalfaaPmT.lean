/- What PM asks of the program's types: one fact each. Printed by types.py. -/
import Derived.Test.YtiipggfhjkalfaaProg
import Derived.Test.YtiipggfhjkalfaaPmI
import Derived.KernelRfl
open Go Go.Proofs
namespace Go.Proofs.Ytiipggfhjkalfaa
namespace Pm
theorem sz_0 : szOf Try.prog 0 = some 1 := by kernel_rfl
theorem ag_0 : aggOf Try.prog 0 = some false := by kernel_rfl
theorem by_0 : byOf Try.prog 0 = some 0 := by kernel_rfl
theorem ze_0 : zeroOf Try.prog 0 = some [Value.tuple { toList := [] }] := by kernel_rfl
theorem un_0 : Try.prog.underlying 0 = some (TypeDesc.tuple { toList := [] }) := by kernel_rfl
theorem zv_0 : zvA Try.prog 0 = some (.v (Value.tuple { toList := [] })) := by kernel_rfl
theorem sz_1 : szOf Try.prog 1 = some 1 := by kernel_rfl
theorem ag_1 : aggOf Try.prog 1 = some false := by kernel_rfl
theorem by_1 : byOf Try.prog 1 = some 8 := by kernel_rfl
theorem ze_1 : zeroOf Try.prog 1 = some [Value.nilFunc] := by kernel_rfl
theorem zv_1 : zvA Try.prog 1 = some (.v (Value.nilFunc)) := by kernel_rfl
theorem sz_2 : szOf Try.prog 2 = some 1 := by kernel_rfl
theorem ag_2 : aggOf Try.prog 2 = some false := by kernel_rfl
theorem by_2 : byOf Try.prog 2 = some 8 := by kernel_rfl
theorem ze_2 : zeroOf Try.prog 2 = some [Value.int IntKind.i64 0] := by kernel_rfl
theorem un_2 : Try.prog.underlying 2 = some (TypeDesc.int IntKind.i64) := by kernel_rfl
theorem zv_2 : zvA Try.prog 2 = some (.v (Value.int IntKind.i64 0)) := by kernel_rfl
theorem sz_3 : szOf Try.prog 3 = some 1 := by kernel_rfl
theorem ag_3 : aggOf Try.prog 3 = some false := by kernel_rfl
theorem by_3 : byOf Try.prog 3 = some 8 := by kernel_rfl
theorem ze_3 : zeroOf Try.prog 3 = some [Value.int IntKind.i64 0] := by kernel_rfl
theorem un_3 : Try.prog.underlying 3 = some (TypeDesc.int IntKind.i64) := by kernel_rfl
theorem zv_3 : zvA Try.prog 3 = some (.v (Value.int IntKind.i64 0)) := by kernel_rfl
theorem sz_4 : szOf Try.prog 4 = some 1 := by kernel_rfl
theorem ag_4 : aggOf Try.prog 4 = some false := by kernel_rfl
theorem by_4 : byOf Try.prog 4 = some 1 := by kernel_rfl
theorem ze_4 : zeroOf Try.prog 4 = some [Value.bool false] := by kernel_rfl
theorem un_4 : Try.prog.underlying 4 = some TypeDesc.bool := by kernel_rfl
theorem zv_4 : zvA Try.prog 4 = some (.v (Value.bool false)) := by kernel_rfl
theorem sz_5 : szOf Try.prog 5 = some 1 := by kernel_rfl
theorem ag_5 : aggOf Try.prog 5 = some false := by kernel_rfl
theorem by_5 : byOf Try.prog 5 = some 1 := by kernel_rfl
theorem ze_5 : zeroOf Try.prog 5 = some [Value.int IntKind.u8 0] := by kernel_rfl
theorem un_5 : Try.prog.underlying 5 = some (TypeDesc.int IntKind.u8) := by kernel_rfl
theorem zv_5 : zvA Try.prog 5 = some (.v (Value.int IntKind.u8 0)) := by kernel_rfl
theorem sz_6 : szOf Try.prog 6 = some 1 := by kernel_rfl
theorem ag_6 : aggOf Try.prog 6 = some false := by kernel_rfl
theorem by_6 : byOf Try.prog 6 = some 1 := by kernel_rfl
theorem ze_6 : zeroOf Try.prog 6 = some [Value.int IntKind.u8 0] := by kernel_rfl
theorem un_6 : Try.prog.underlying 6 = some (TypeDesc.int IntKind.u8) := by kernel_rfl
theorem zv_6 : zvA Try.prog 6 = some (.v (Value.int IntKind.u8 0)) := by kernel_rfl
theorem sz_7 : szOf Try.prog 7 = some 4 := by kernel_rfl
theorem ag_7 : aggOf Try.prog 7 = some true := by kernel_rfl
theorem by_7 : byOf Try.prog 7 = some 24 := by kernel_rfl
theorem pl_7 : plOf Try.prog 7 = some (PL.str [(0, 1), (1, 1), (2, 1), (3, 1)]) := by kernel_rfl
theorem ze_7 : zeroOf Try.prog 7 = some [Value.int IntKind.i64 0, Value.int IntKind.i64 0, Value.bool false, Value.int IntKind.u8 0] := by kernel_rfl
theorem eq_7 : eqOf Try.prog 7 = some [(0, false), (1, false), (2, true), (3, false)] := by kernel_rfl
theorem ko_7 (x0 x1 x2 x3 : AV) : keyOkA Try.prog 7 (.agg [x0, x1, x2, x3]) = true := by kernel_rfl
theorem zv_7 : zvA Try.prog 7 = some (.agg [.v (Value.int IntKind.i64 0), .v (Value.int IntKind.i64 0), .v (Value.bool false), .v (Value.int IntKind.u8 0)]) := by kernel_rfl
theorem fl_7_0 : fldOf Try.prog 7 0 = some (0, 2, 1) := by kernel_rfl
theorem fl_7_1 : fldOf Try.prog 7 1 = some (1, 3, 1) := by kernel_rfl
theorem fl_7_2 : fldOf Try.prog 7 2 = some (2, 4, 1) := by kernel_rfl
theorem fl_7_3 : fldOf Try.prog 7 3 = some (3, 6, 1) := by kernel_rfl
theorem sz_8 : szOf Try.prog 8 = some 4 := by kernel_rfl
theorem ag_8 : aggOf Try.prog 8 = some true := by kernel_rfl
theorem by_8 : byOf Try.prog 8 = some 24 := by kernel_rfl
theorem pl_8 : plOf Try.prog 8 = some (PL.str [(0, 1), (1, 1), (2, 1), (3, 1)]) := by kernel_rfl
theorem ze_8 : zeroOf Try.prog 8 = some [Value.int IntKind.i64 0, Value.int IntKind.i64 0, Value.bool false, Value.int IntKind.u8 0] := by kernel_rfl
theorem eq_8 : eqOf Try.prog 8 = some [(0, false), (1, false), (2, true), (3, false)] := by kernel_rfl
theorem ko_8 (x0 x1 x2 x3 : AV) : keyOkA Try.prog 8 (.agg [x0, x1, x2, x3]) = true := by kernel_rfl
theorem zv_8 : zvA Try.prog 8 = some (.agg [.v (Value.int IntKind.i64 0), .v (Value.int IntKind.i64 0), .v (Value.bool false), .v (Value.int IntKind.u8 0)]) := by kernel_rfl
theorem fl_8_0 : fldOf Try.prog 8 0 = some (0, 2, 1) := by kernel_rfl
theorem fl_8_1 : fldOf Try.prog 8 1 = some (1, 3, 1) := by kernel_rfl
theorem fl_8_2 : fldOf Try.prog 8 2 = some (2, 4, 1) := by kernel_rfl
theorem fl_8_3 : fldOf Try.prog 8 3 = some (3, 6, 1) := by kernel_rfl
theorem sz_9 : szOf Try.prog 9 = some 1 := by kernel_rfl
theorem ag_9 : aggOf Try.prog 9 = some false := by kernel_rfl
theorem by_9 : byOf Try.prog 9 = some 16 := by kernel_rfl
theorem ze_9 : zeroOf Try.prog 9 = some [Value.string { data := { toList := [] } }] := by kernel_rfl
theorem un_9 : Try.prog.underlying 9 = some TypeDesc.string := by kernel_rfl
theorem zv_9 : zvA Try.prog 9 = some (.v (Value.string { data := { toList := [] } })) := by kernel_rfl
theorem sz_10 : szOf Try.prog 10 = some 1 := by kernel_rfl
theorem ag_10 : aggOf Try.prog 10 = some false := by kernel_rfl
theorem by_10 : byOf Try.prog 10 = some 16 := by kernel_rfl
theorem ze_10 : zeroOf Try.prog 10 = some [Value.string { data := { toList := [] } }] := by kernel_rfl
theorem un_10 : Try.prog.underlying 10 = some TypeDesc.string := by kernel_rfl
theorem zv_10 : zvA Try.prog 10 = some (.v (Value.string { data := { toList := [] } })) := by kernel_rfl
theorem sz_22 : szOf Try.prog 22 = some 1 := by kernel_rfl
theorem ag_22 : aggOf Try.prog 22 = some false := by kernel_rfl
theorem sl_22 : slOf Try.prog 22 = some 33 := by kernel_rfl
theorem by_22 : byOf Try.prog 22 = some 24 := by kernel_rfl
theorem ze_22 : zeroOf Try.prog 22 = some [Value.slice none 0 0] := by kernel_rfl
theorem un_22 : Try.prog.underlying 22 = some (TypeDesc.slice 33) := by kernel_rfl
theorem zv_22 : zvA Try.prog 22 = some (.v (Value.slice none 0 0)) := by kernel_rfl
theorem sz_26 : szOf Try.prog 26 = some 1 := by kernel_rfl
theorem ag_26 : aggOf Try.prog 26 = some false := by kernel_rfl
theorem by_26 : byOf Try.prog 26 = some 8 := by kernel_rfl
theorem ze_26 : zeroOf Try.prog 26 = some [Value.int IntKind.i64 0] := by kernel_rfl
theorem un_26 : Try.prog.underlying 26 = some (TypeDesc.int IntKind.i64) := by kernel_rfl
theorem zv_26 : zvA Try.prog 26 = some (.v (Value.int IntKind.i64 0)) := by kernel_rfl
theorem sz_30 : szOf Try.prog 30 = some 1 := by kernel_rfl
theorem ag_30 : aggOf Try.prog 30 = some false := by kernel_rfl
theorem by_30 : byOf Try.prog 30 = some 0 := by kernel_rfl
theorem ze_30 : zeroOf Try.prog 30 = some [Value.tuple { toList := [Value.slice none 0 0, Value.int IntKind.i64 0] }] := by kernel_rfl
theorem un_30 : Try.prog.underlying 30 = some (TypeDesc.tuple { toList := [22, 26] }) := by kernel_rfl
theorem zv_30 : zvA Try.prog 30 = some (.v (Value.tuple { toList := [Value.slice none 0 0, Value.int IntKind.i64 0] })) := by kernel_rfl
theorem sz_33 : szOf Try.prog 33 = some 3 := by kernel_rfl
theorem ag_33 : aggOf Try.prog 33 = some true := by kernel_rfl
theorem by_33 : byOf Try.prog 33 = some 24 := by kernel_rfl
theorem pl_33 : plOf Try.prog 33 = some (PL.str [(0, 1), (1, 1), (2, 1)]) := by kernel_rfl
theorem ze_33 : zeroOf Try.prog 33 = some [Value.int IntKind.i64 0, Value.int IntKind.i64 0, Value.int IntKind.i64 0] := by kernel_rfl
theorem eq_33 : eqOf Try.prog 33 = some [(0, false), (1, false), (2, false)] := by kernel_rfl
theorem ko_33 (x0 x1 x2 : AV) : keyOkA Try.prog 33 (.agg [x0, x1, x2]) = true := by kernel_rfl
theorem zv_33 : zvA Try.prog 33 = some (.agg [.v (Value.int IntKind.i64 0), .v (Value.int IntKind.i64 0), .v (Value.int IntKind.i64 0)]) := by kernel_rfl
theorem fl_33_0 : fldOf Try.prog 33 0 = some (0, 2, 1) := by kernel_rfl
theorem fl_33_1 : fldOf Try.prog 33 1 = some (1, 2, 1) := by kernel_rfl
theorem fl_33_2 : fldOf Try.prog 33 2 = some (2, 3, 1) := by kernel_rfl
theorem sz_34 : szOf Try.prog 34 = some 1 := by kernel_rfl
theorem ag_34 : aggOf Try.prog 34 = some false := by kernel_rfl
theorem by_34 : byOf Try.prog 34 = some 8 := by kernel_rfl
theorem ze_34 : zeroOf Try.prog 34 = some [Value.int IntKind.u64 0] := by kernel_rfl
theorem un_34 : Try.prog.underlying 34 = some (TypeDesc.int IntKind.u64) := by kernel_rfl
theorem zv_34 : zvA Try.prog 34 = some (.v (Value.int IntKind.u64 0)) := by kernel_rfl
theorem sz_37 : szOf Try.prog 37 = some 10 := by kernel_rfl
theorem ag_37 : aggOf Try.prog 37 = some true := by kernel_rfl
theorem by_37 : byOf Try.prog 37 = some 80 := by kernel_rfl
theorem pl_37 : plOf Try.prog 37 = some (PL.str [(0, 1), (1, 1), (2, 1), (3, 1), (4, 1), (5, 1), (6, 1), (7, 1), (8, 1), (9, 1)]) := by kernel_rfl
theorem ze_37 : zeroOf Try.prog 37 = some [Value.int IntKind.i64 0, Value.int IntKind.i64 0, Value.int IntKind.i64 0, Value.int IntKind.i64 0, Value.int IntKind.i64 0, Value.int IntKind.i64 0, Value.int IntKind.i64 0, Value.int IntKind.i64 0, Value.int IntKind.i64 0, Value.int IntKind.i64 0] := by kernel_rfl
theorem eq_37 : eqOf Try.prog 37 = some [(0, false), (1, false), (2, false), (3, false), (4, false), (5, false), (6, false), (7, false), (8, false), (9, false)] := by kernel_rfl
theorem zv_37 : zvA Try.prog 37 = some (.agg [.v (Value.int IntKind.i64 0), .v (Value.int IntKind.i64 0), .v (Value.int IntKind.i64 0), .v (Value.int IntKind.i64 0), .v (Value.int IntKind.i64 0), .v (Value.int IntKind.i64 0), .v (Value.int IntKind.i64 0), .v (Value.int IntKind.i64 0), .v (Value.int IntKind.i64 0), .v (Value.int IntKind.i64 0)]) := by kernel_rfl
theorem fl_37_0 : fldOf Try.prog 37 0 = some (0, 3, 1) := by kernel_rfl
theorem fl_37_1 : fldOf Try.prog 37 1 = some (1, 3, 1) := by kernel_rfl
theorem fl_37_2 : fldOf Try.prog 37 2 = some (2, 3, 1) := by kernel_rfl
theorem fl_37_3 : fldOf Try.prog 37 3 = some (3, 3, 1) := by kernel_rfl
theorem fl_37_4 : fldOf Try.prog 37 4 = some (4, 3, 1) := by kernel_rfl
theorem fl_37_5 : fldOf Try.prog 37 5 = some (5, 3, 1) := by kernel_rfl
theorem fl_37_6 : fldOf Try.prog 37 6 = some (6, 3, 1) := by kernel_rfl
theorem fl_37_7 : fldOf Try.prog 37 7 = some (7, 3, 1) := by kernel_rfl
theorem fl_37_8 : fldOf Try.prog 37 8 = some (8, 3, 1) := by kernel_rfl
theorem fl_37_9 : fldOf Try.prog 37 9 = some (9, 3, 1) := by kernel_rfl
theorem sz_38 : szOf Try.prog 38 = some 1 := by kernel_rfl
theorem ag_38 : aggOf Try.prog 38 = some false := by kernel_rfl
theorem by_38 : byOf Try.prog 38 = some 0 := by kernel_rfl
theorem ze_38 : zeroOf Try.prog 38 = some [Value.tuple { toList := [Value.agg { toList := [Value.int IntKind.i64 0, Value.int IntKind.i64 0, Value.int IntKind.i64 0, Value.int IntKind.i64 0, Value.int IntKind.i64 0, Value.int IntKind.i64 0, Value.int IntKind.i64 0, Value.int IntKind.i64 0, Value.int IntKind.i64 0, Value.int IntKind.i64 0] }, Value.int IntKind.i64 0] }] := by kernel_rfl
theorem un_38 : Try.prog.underlying 38 = some (TypeDesc.tuple { toList := [37, 26] }) := by kernel_rfl
theorem zv_38 : zvA Try.prog 38 = some (.v (Value.tuple { toList := [Value.agg { toList := [Value.int IntKind.i64 0, Value.int IntKind.i64 0, Value.int IntKind.i64 0, Value.int IntKind.i64 0, Value.int IntKind.i64 0, Value.int IntKind.i64 0, Value.int IntKind.i64 0, Value.int IntKind.i64 0, Value.int IntKind.i64 0, Value.int IntKind.i64 0] }, Value.int IntKind.i64 0] })) := by kernel_rfl
theorem sz_40 : szOf Try.prog 40 = some 1 := by kernel_rfl
theorem ag_40 : aggOf Try.prog 40 = some false := by kernel_rfl
theorem by_40 : byOf Try.prog 40 = some 0 := by kernel_rfl
theorem ze_40 : zeroOf Try.prog 40 = some [Value.tuple { toList := [Value.int IntKind.i64 0, Value.int IntKind.i64 0] }] := by kernel_rfl
theorem un_40 : Try.prog.underlying 40 = some (TypeDesc.tuple { toList := [3, 26] }) := by kernel_rfl
theorem zv_40 : zvA Try.prog 40 = some (.v (Value.tuple { toList := [Value.int IntKind.i64 0, Value.int IntKind.i64 0] })) := by kernel_rfl
theorem sz_44 : szOf Try.prog 44 = some 1 := by kernel_rfl
theorem ag_44 : aggOf Try.prog 44 = some false := by kernel_rfl
theorem sl_44 : slOf Try.prog 44 = some 3 := by kernel_rfl
theorem by_44 : byOf Try.prog 44 = some 24 := by kernel_rfl
theorem ze_44 : zeroOf Try.prog 44 = some [Value.slice none 0 0] := by kernel_rfl
theorem un_44 : Try.prog.underlying 44 = some (TypeDesc.slice 3) := by kernel_rfl
theorem zv_44 : zvA Try.prog 44 = some (.v (Value.slice none 0 0)) := by kernel_rfl
theorem sz_46 : szOf Try.prog 46 = some 7 := by kernel_rfl
theorem ag_46 : aggOf Try.prog 46 = some true := by kernel_rfl
theorem by_46 : byOf Try.prog 46 = some 88 := by kernel_rfl
theorem pl_46 : plOf Try.prog 46 = some (PL.str [(0, 1), (1, 1), (2, 1), (3, 1), (4, 3)]) := by kernel_rfl
theorem ze_46 : zeroOf Try.prog 46 = some [Value.slice none 0 0, Value.slice none 0 0, Value.int IntKind.i64 0, Value.bool false, Value.int IntKind.i64 0, Value.int IntKind.i64 0, Value.int IntKind.i64 0] := by kernel_rfl
theorem zv_46 : zvA Try.prog 46 = some (.agg [.v (Value.slice none 0 0), .v (Value.slice none 0 0), .v (Value.int IntKind.i64 0), .v (Value.bool false), .v (Value.int IntKind.i64 0), .v (Value.int IntKind.i64 0), .v (Value.int IntKind.i64 0)]) := by kernel_rfl
theorem fl_46_0 : fldOf Try.prog 46 0 = some (0, 22, 1) := by kernel_rfl
theorem fl_46_1 : fldOf Try.prog 46 1 = some (1, 22, 1) := by kernel_rfl
theorem fl_46_2 : fldOf Try.prog 46 2 = some (2, 2, 1) := by kernel_rfl
theorem fl_46_3 : fldOf Try.prog 46 3 = some (3, 4, 1) := by kernel_rfl
theorem fl_46_4 : fldOf Try.prog 46 4 = some (4, 33, 3) := by kernel_rfl
theorem sz_53 : szOf Try.prog 53 = some 1 := by kernel_rfl
theorem ag_53 : aggOf Try.prog 53 = some false := by kernel_rfl
theorem by_53 : byOf Try.prog 53 = some 0 := by kernel_rfl
theorem ze_53 : zeroOf Try.prog 53 = some [Value.tuple { toList := [Value.agg { toList := [Value.int IntKind.i64 0, Value.int IntKind.i64 0, Value.int IntKind.i64 0] }, Value.agg { toList := [Value.int IntKind.i64 0, Value.int IntKind.i64 0, Value.int IntKind.i64 0] }, Value.int IntKind.i64 0] }] := by kernel_rfl
theorem un_53 : Try.prog.underlying 53 = some (TypeDesc.tuple { toList := [33, 33, 26] }) := by kernel_rfl
theorem zv_53 : zvA Try.prog 53 = some (.v (Value.tuple { toList := [Value.agg { toList := [Value.int IntKind.i64 0, Value.int IntKind.i64 0, Value.int IntKind.i64 0] }, Value.agg { toList := [Value.int IntKind.i64 0, Value.int IntKind.i64 0, Value.int IntKind.i64 0] }, Value.int IntKind.i64 0] })) := by kernel_rfl
theorem sz_65 : szOf Try.prog 65 = some 1 := by kernel_rfl
theorem ag_65 : aggOf Try.prog 65 = some false := by kernel_rfl
theorem sl_65 : slOf Try.prog 65 = some 70 := by kernel_rfl
theorem by_65 : byOf Try.prog 65 = some 24 := by kernel_rfl
theorem ze_65 : zeroOf Try.prog 65 = some [Value.slice none 0 0] := by kernel_rfl
theorem un_65 : Try.prog.underlying 65 = some (TypeDesc.slice 70) := by kernel_rfl
theorem zv_65 : zvA Try.prog 65 = some (.v (Value.slice none 0 0)) := by kernel_rfl
theorem sz_67 : szOf Try.prog 67 = some 1 := by kernel_rfl
theorem ag_67 : aggOf Try.prog 67 = some false := by kernel_rfl
theorem by_67 : byOf Try.prog 67 = some 8 := by kernel_rfl
theorem ze_67 : zeroOf Try.prog 67 = some [Value.pointer none] := by kernel_rfl
theorem un_67 : Try.prog.underlying 67 = some (TypeDesc.pointer 37) := by kernel_rfl
theorem po_67 : ptrOf Try.prog 67 = some 37 := by kernel_rfl
theorem zv_67 : zvA Try.prog 67 = some (.v (Value.pointer none)) := by kernel_rfl
theorem sz_68 : szOf Try.prog 68 = some 1 := by kernel_rfl
theorem ag_68 : aggOf Try.prog 68 = some false := by kernel_rfl
theorem by_68 : byOf Try.prog 68 = some 8 := by kernel_rfl
theorem ze_68 : zeroOf Try.prog 68 = some [Value.pointer none] := by kernel_rfl
theorem un_68 : Try.prog.underlying 68 = some (TypeDesc.pointer 3) := by kernel_rfl
theorem po_68 : ptrOf Try.prog 68 = some 3 := by kernel_rfl
theorem zv_68 : zvA Try.prog 68 = some (.v (Value.pointer none)) := by kernel_rfl
theorem sz_70 : szOf Try.prog 70 = some 2 := by kernel_rfl
theorem ag_70 : aggOf Try.prog 70 = some true := by kernel_rfl
theorem by_70 : byOf Try.prog 70 = some 16 := by kernel_rfl
theorem pl_70 : plOf Try.prog 70 = some (PL.str [(0, 1), (1, 1)]) := by kernel_rfl
theorem ze_70 : zeroOf Try.prog 70 = some [Value.int IntKind.i64 0, Value.pointer none] := by kernel_rfl
theorem zv_70 : zvA Try.prog 70 = some (.agg [.v (Value.int IntKind.i64 0), .v (Value.pointer none)]) := by kernel_rfl
theorem fl_70_0 : fldOf Try.prog 70 0 = some (0, 3, 1) := by kernel_rfl
theorem fl_70_1 : fldOf Try.prog 70 1 = some (1, 68, 1) := by kernel_rfl
theorem sz_72 : szOf Try.prog 72 = some 1 := by kernel_rfl
theorem ag_72 : aggOf Try.prog 72 = some false := by kernel_rfl
theorem by_72 : byOf Try.prog 72 = some 0 := by kernel_rfl
theorem ze_72 : zeroOf Try.prog 72 = some [Value.tuple { toList := [Value.slice none 0 0, Value.slice none 0 0] }] := by kernel_rfl
theorem un_72 : Try.prog.underlying 72 = some (TypeDesc.tuple { toList := [44, 44] }) := by kernel_rfl
theorem zv_72 : zvA Try.prog 72 = some (.v (Value.tuple { toList := [Value.slice none 0 0, Value.slice none 0 0] })) := by kernel_rfl
theorem sz_76 : szOf Try.prog 76 = some 1 := by kernel_rfl
theorem ag_76 : aggOf Try.prog 76 = some false := by kernel_rfl
theorem by_76 : byOf Try.prog 76 = some 8 := by kernel_rfl
theorem ze_76 : zeroOf Try.prog 76 = some [Value.nilFunc] := by kernel_rfl
theorem zv_76 : zvA Try.prog 76 = some (.v (Value.nilFunc)) := by kernel_rfl
theorem sz_77 : szOf Try.prog 77 = some 1 := by kernel_rfl
theorem ag_77 : aggOf Try.prog 77 = some false := by kernel_rfl
theorem sl_77 : slOf Try.prog 77 = some 2 := by kernel_rfl
theorem by_77 : byOf Try.prog 77 = some 24 := by kernel_rfl
theorem ze_77 : zeroOf Try.prog 77 = some [Value.slice none 0 0] := by kernel_rfl
theorem un_77 : Try.prog.underlying 77 = some (TypeDesc.slice 2) := by kernel_rfl
theorem zv_77 : zvA Try.prog 77 = some (.v (Value.slice none 0 0)) := by kernel_rfl
theorem sz_78 : szOf Try.prog 78 = some 1 := by kernel_rfl
theorem ag_78 : aggOf Try.prog 78 = some false := by kernel_rfl
theorem sl_78 : slOf Try.prog 78 = some 4 := by kernel_rfl
theorem by_78 : byOf Try.prog 78 = some 24 := by kernel_rfl
theorem ze_78 : zeroOf Try.prog 78 = some [Value.slice none 0 0] := by kernel_rfl
theorem un_78 : Try.prog.underlying 78 = some (TypeDesc.slice 4) := by kernel_rfl
theorem zv_78 : zvA Try.prog 78 = some (.v (Value.slice none 0 0)) := by kernel_rfl
theorem sz_80 : szOf Try.prog 80 = some 6 := by kernel_rfl
theorem ag_80 : aggOf Try.prog 80 = some true := by kernel_rfl
theorem by_80 : byOf Try.prog 80 = some 144 := by kernel_rfl
theorem pl_80 : plOf Try.prog 80 = some (PL.str [(0, 1), (1, 1), (2, 1), (3, 1), (4, 1), (5, 1)]) := by kernel_rfl
theorem ze_80 : zeroOf Try.prog 80 = some [Value.slice none 0 0, Value.slice none 0 0, Value.slice none 0 0, Value.slice none 0 0, Value.slice none 0 0, Value.slice none 0 0] := by kernel_rfl
theorem zv_80 : zvA Try.prog 80 = some (.agg [.v (Value.slice none 0 0), .v (Value.slice none 0 0), .v (Value.slice none 0 0), .v (Value.slice none 0 0), .v (Value.slice none 0 0), .v (Value.slice none 0 0)]) := by kernel_rfl
theorem fl_80_0 : fldOf Try.prog 80 0 = some (0, 44, 1) := by kernel_rfl
theorem fl_80_1 : fldOf Try.prog 80 1 = some (1, 77, 1) := by kernel_rfl
theorem fl_80_2 : fldOf Try.prog 80 2 = some (2, 77, 1) := by kernel_rfl
theorem fl_80_3 : fldOf Try.prog 80 3 = some (3, 44, 1) := by kernel_rfl
theorem fl_80_4 : fldOf Try.prog 80 4 = some (4, 78, 1) := by kernel_rfl
theorem fl_80_5 : fldOf Try.prog 80 5 = some (5, 78, 1) := by kernel_rfl
theorem sz_82 : szOf Try.prog 82 = some 16 := by kernel_rfl
theorem ag_82 : aggOf Try.prog 82 = some true := by kernel_rfl
theorem by_82 : byOf Try.prog 82 = some 304 := by kernel_rfl
theorem pl_82 : plOf Try.prog 82 = some (PL.str [(0, 6), (6, 1), (7, 1), (8, 1), (9, 1), (10, 1), (11, 1), (12, 1), (13, 1), (14, 1), (15, 1)]) := by kernel_rfl
theorem ze_82 : zeroOf Try.prog 82 = some [Value.slice none 0 0, Value.slice none 0 0, Value.slice none 0 0, Value.slice none 0 0, Value.slice none 0 0, Value.slice none 0 0, Value.slice none 0 0, Value.slice none 0 0, Value.int IntKind.i64 0, Value.int IntKind.i64 0, Value.int IntKind.i64 0, Value.int IntKind.i64 0, Value.int IntKind.i64 0, Value.slice none 0 0, Value.slice none 0 0, Value.slice none 0 0] := by kernel_rfl
theorem zv_82 : zvA Try.prog 82 = some (.agg [.v (Value.slice none 0 0), .v (Value.slice none 0 0), .v (Value.slice none 0 0), .v (Value.slice none 0 0), .v (Value.slice none 0 0), .v (Value.slice none 0 0), .v (Value.slice none 0 0), .v (Value.slice none 0 0), .v (Value.int IntKind.i64 0), .v (Value.int IntKind.i64 0), .v (Value.int IntKind.i64 0), .v (Value.int IntKind.i64 0), .v (Value.int IntKind.i64 0), .v (Value.slice none 0 0), .v (Value.slice none 0 0), .v (Value.slice none 0 0)]) := by kernel_rfl
theorem fl_82_0 : fldOf Try.prog 82 0 = some (0, 80, 6) := by kernel_rfl
theorem fl_82_1 : fldOf Try.prog 82 1 = some (6, 44, 1) := by kernel_rfl
theorem fl_82_2 : fldOf Try.prog 82 2 = some (7, 44, 1) := by kernel_rfl
theorem fl_82_3 : fldOf Try.prog 82 3 = some (8, 3, 1) := by kernel_rfl
theorem fl_82_4 : fldOf Try.prog 82 4 = some (9, 3, 1) := by kernel_rfl
theorem fl_82_5 : fldOf Try.prog 82 5 = some (10, 3, 1) := by kernel_rfl
theorem fl_82_6 : fldOf Try.prog 82 6 = some (11, 3, 1) := by kernel_rfl
theorem fl_82_7 : fldOf Try.prog 82 7 = some (12, 3, 1) := by kernel_rfl
theorem fl_82_8 : fldOf Try.prog 82 8 = some (13, 44, 1) := by kernel_rfl
theorem fl_82_9 : fldOf Try.prog 82 9 = some (14, 44, 1) := by kernel_rfl
theorem fl_82_10 : fldOf Try.prog 82 10 = some (15, 78, 1) := by kernel_rfl
theorem sz_83 : szOf Try.prog 83 = some 1 := by kernel_rfl
theorem ag_83 : aggOf Try.prog 83 = some false := by kernel_rfl
theorem by_83 : byOf Try.prog 83 = some 0 := by kernel_rfl
theorem ze_83 : zeroOf Try.prog 83 = some [Value.tuple { toList := [Value.agg { toList := [Value.slice none 0 0, Value.slice none 0 0, Value.slice none 0 0, Value.slice none 0 0, Value.slice none 0 0, Value.slice none 0 0, Value.slice none 0 0, Value.slice none 0 0, Value.int IntKind.i64 0, Value.int IntKind.i64 0, Value.int IntKind.i64 0, Value.int IntKind.i64 0, Value.int IntKind.i64 0, Value.slice none 0 0, Value.slice none 0 0, Value.slice none 0 0] }, Value.int IntKind.i64 0] }] := by kernel_rfl
theorem un_83 : Try.prog.underlying 83 = some (TypeDesc.tuple { toList := [82, 26] }) := by kernel_rfl
theorem zv_83 : zvA Try.prog 83 = some (.v (Value.tuple { toList := [Value.agg { toList := [Value.slice none 0 0, Value.slice none 0 0, Value.slice none 0 0, Value.slice none 0 0, Value.slice none 0 0, Value.slice none 0 0, Value.slice none 0 0, Value.slice none 0 0, Value.int IntKind.i64 0, Value.int IntKind.i64 0, Value.int IntKind.i64 0, Value.int IntKind.i64 0, Value.int IntKind.i64 0, Value.slice none 0 0, Value.slice none 0 0, Value.slice none 0 0] }, Value.int IntKind.i64 0] })) := by kernel_rfl
theorem sz_86 : szOf Try.prog 86 = some 1 := by kernel_rfl
theorem ag_86 : aggOf Try.prog 86 = some false := by kernel_rfl
theorem by_86 : byOf Try.prog 86 = some 8 := by kernel_rfl
theorem ze_86 : zeroOf Try.prog 86 = some [Value.pointer none] := by kernel_rfl
theorem un_86 : Try.prog.underlying 86 = some (TypeDesc.pointer 100) := by kernel_rfl
theorem po_86 : ptrOf Try.prog 86 = some 100 := by kernel_rfl
theorem zv_86 : zvA Try.prog 86 = some (.v (Value.pointer none)) := by kernel_rfl
theorem sz_87 : szOf Try.prog 87 = some 1 := by kernel_rfl
theorem ag_87 : aggOf Try.prog 87 = some false := by kernel_rfl
theorem by_87 : byOf Try.prog 87 = some 0 := by kernel_rfl
theorem ze_87 : zeroOf Try.prog 87 = some [Value.tuple { toList := [Value.pointer none, Value.int IntKind.i64 0] }] := by kernel_rfl
theorem un_87 : Try.prog.underlying 87 = some (TypeDesc.tuple { toList := [86, 26] }) := by kernel_rfl
theorem zv_87 : zvA Try.prog 87 = some (.v (Value.tuple { toList := [Value.pointer none, Value.int IntKind.i64 0] })) := by kernel_rfl
theorem sz_91 : szOf Try.prog 91 = some 2 := by kernel_rfl
theorem ag_91 : aggOf Try.prog 91 = some true := by kernel_rfl
theorem by_91 : byOf Try.prog 91 = some 16 := by kernel_rfl
theorem pl_91 : plOf Try.prog 91 = some (PL.str [(0, 1), (1, 1)]) := by kernel_rfl
theorem ze_91 : zeroOf Try.prog 91 = some [Value.int IntKind.i64 0, Value.int IntKind.i64 0] := by kernel_rfl
theorem eq_91 : eqOf Try.prog 91 = some [(0, false), (1, false)] := by kernel_rfl
theorem ko_91 (x0 x1 : AV) : keyOkA Try.prog 91 (.agg [x0, x1]) = true := by kernel_rfl
theorem zv_91 : zvA Try.prog 91 = some (.agg [.v (Value.int IntKind.i64 0), .v (Value.int IntKind.i64 0)]) := by kernel_rfl
theorem fl_91_0 : fldOf Try.prog 91 0 = some (0, 2, 1) := by kernel_rfl
theorem fl_91_1 : fldOf Try.prog 91 1 = some (1, 2, 1) := by kernel_rfl
theorem sz_93 : szOf Try.prog 93 = some 3 := by kernel_rfl
theorem ag_93 : aggOf Try.prog 93 = some true := by kernel_rfl
theorem by_93 : byOf Try.prog 93 = some 24 := by kernel_rfl
theorem pl_93 : plOf Try.prog 93 = some (PL.str [(0, 2), (2, 1)]) := by kernel_rfl
theorem ze_93 : zeroOf Try.prog 93 = some [Value.int IntKind.i64 0, Value.int IntKind.i64 0, Value.int IntKind.i64 0] := by kernel_rfl
theorem zv_93 : zvA Try.prog 93 = some (.agg [.v (Value.int IntKind.i64 0), .v (Value.int IntKind.i64 0), .v (Value.int IntKind.i64 0)]) := by kernel_rfl
theorem fl_93_0 : fldOf Try.prog 93 0 = some (0, 91, 2) := by kernel_rfl
theorem fl_93_1 : fldOf Try.prog 93 1 = some (2, 3, 1) := by kernel_rfl
theorem sz_94 : szOf Try.prog 94 = some 1 := by kernel_rfl
theorem ag_94 : aggOf Try.prog 94 = some false := by kernel_rfl
theorem sl_94 : slOf Try.prog 94 = some 93 := by kernel_rfl
theorem by_94 : byOf Try.prog 94 = some 24 := by kernel_rfl
theorem ze_94 : zeroOf Try.prog 94 = some [Value.slice none 0 0] := by kernel_rfl
theorem un_94 : Try.prog.underlying 94 = some (TypeDesc.slice 93) := by kernel_rfl
theorem zv_94 : zvA Try.prog 94 = some (.v (Value.slice none 0 0)) := by kernel_rfl
theorem sz_96 : szOf Try.prog 96 = some 1 := by kernel_rfl
theorem ag_96 : aggOf Try.prog 96 = some true := by kernel_rfl
theorem by_96 : byOf Try.prog 96 = some 24 := by kernel_rfl
theorem pl_96 : plOf Try.prog 96 = some (PL.str [(0, 1)]) := by kernel_rfl
theorem ze_96 : zeroOf Try.prog 96 = some [Value.slice none 0 0] := by kernel_rfl
theorem zv_96 : zvA Try.prog 96 = some (.agg [.v (Value.slice none 0 0)]) := by kernel_rfl
theorem fl_96_0 : fldOf Try.prog 96 0 = some (0, 94, 1) := by kernel_rfl
theorem sz_97 : szOf Try.prog 97 = some 1 := by kernel_rfl
theorem ag_97 : aggOf Try.prog 97 = some false := by kernel_rfl
theorem by_97 : byOf Try.prog 97 = some 8 := by kernel_rfl
theorem ze_97 : zeroOf Try.prog 97 = some [Value.map none] := by kernel_rfl
theorem un_97 : Try.prog.underlying 97 = some (TypeDesc.map 91 4) := by kernel_rfl
theorem mp_97 : mapOf Try.prog 97 = some (91, 4) := by kernel_rfl
theorem zv_97 : zvA Try.prog 97 = some (.v (Value.map none)) := by kernel_rfl
theorem sz_98 : szOf Try.prog 98 = some 1 := by kernel_rfl
theorem ag_98 : aggOf Try.prog 98 = some false := by kernel_rfl
theorem by_98 : byOf Try.prog 98 = some 8 := by kernel_rfl
theorem ze_98 : zeroOf Try.prog 98 = some [Value.map none] := by kernel_rfl
theorem un_98 : Try.prog.underlying 98 = some (TypeDesc.map 91 3) := by kernel_rfl
theorem mp_98 : mapOf Try.prog 98 = some (91, 3) := by kernel_rfl
theorem zv_98 : zvA Try.prog 98 = some (.v (Value.map none)) := by kernel_rfl
theorem sz_100 : szOf Try.prog 100 = some 11 := by kernel_rfl
theorem ag_100 : aggOf Try.prog 100 = some true := by kernel_rfl
theorem by_100 : byOf Try.prog 100 = some 104 := by kernel_rfl
theorem pl_100 : plOf Try.prog 100 = some (PL.str [(0, 3), (3, 1), (4, 1), (5, 1), (6, 1), (7, 1), (8, 1), (9, 1), (10, 1)]) := by kernel_rfl
theorem ze_100 : zeroOf Try.prog 100 = some [Value.int IntKind.i64 0, Value.int IntKind.i64 0, Value.int IntKind.i64 0, Value.slice none 0 0, Value.int IntKind.i64 0, Value.map none, Value.map none, Value.map none, Value.map none, Value.int IntKind.i64 0, Value.int IntKind.i64 0] := by kernel_rfl
theorem zv_100 : zvA Try.prog 100 = some (.agg [.v (Value.int IntKind.i64 0), .v (Value.int IntKind.i64 0), .v (Value.int IntKind.i64 0), .v (Value.slice none 0 0), .v (Value.int IntKind.i64 0), .v (Value.map none), .v (Value.map none), .v (Value.map none), .v (Value.map none), .v (Value.int IntKind.i64 0), .v (Value.int IntKind.i64 0)]) := by kernel_rfl
theorem fl_100_0 : fldOf Try.prog 100 0 = some (0, 93, 3) := by kernel_rfl
theorem fl_100_1 : fldOf Try.prog 100 1 = some (3, 96, 1) := by kernel_rfl
theorem fl_100_2 : fldOf Try.prog 100 2 = some (4, 3, 1) := by kernel_rfl
theorem fl_100_3 : fldOf Try.prog 100 3 = some (5, 97, 1) := by kernel_rfl
theorem fl_100_4 : fldOf Try.prog 100 4 = some (6, 98, 1) := by kernel_rfl
theorem fl_100_5 : fldOf Try.prog 100 5 = some (7, 97, 1) := by kernel_rfl
theorem fl_100_6 : fldOf Try.prog 100 6 = some (8, 97, 1) := by kernel_rfl
theorem fl_100_7 : fldOf Try.prog 100 7 = some (9, 3, 1) := by kernel_rfl
theorem fl_100_8 : fldOf Try.prog 100 8 = some (10, 2, 1) := by kernel_rfl
theorem sz_108 : szOf Try.prog 108 = some 4 := by kernel_rfl
theorem ag_108 : aggOf Try.prog 108 = some true := by kernel_rfl
theorem by_108 : byOf Try.prog 108 = some 48 := by kernel_rfl
theorem pl_108 : plOf Try.prog 108 = some (PL.str [(0, 1), (1, 1), (2, 1), (3, 1)]) := by kernel_rfl
theorem ze_108 : zeroOf Try.prog 108 = some [Value.pointer none, Value.slice none 0 0, Value.int IntKind.i64 0, Value.int IntKind.i64 0] := by kernel_rfl
theorem zv_108 : zvA Try.prog 108 = some (.agg [.v (Value.pointer none), .v (Value.slice none 0 0), .v (Value.int IntKind.i64 0), .v (Value.int IntKind.i64 0)]) := by kernel_rfl
theorem fl_108_0 : fldOf Try.prog 108 0 = some (0, 86, 1) := by kernel_rfl
theorem fl_108_1 : fldOf Try.prog 108 1 = some (1, 44, 1) := by kernel_rfl
theorem fl_108_2 : fldOf Try.prog 108 2 = some (2, 2, 1) := by kernel_rfl
theorem fl_108_3 : fldOf Try.prog 108 3 = some (3, 2, 1) := by kernel_rfl
theorem sz_109 : szOf Try.prog 109 = some 1 := by kernel_rfl
theorem ag_109 : aggOf Try.prog 109 = some false := by kernel_rfl
theorem by_109 : byOf Try.prog 109 = some 0 := by kernel_rfl
theorem ze_109 : zeroOf Try.prog 109 = some [Value.tuple { toList := [Value.agg { toList := [Value.pointer none, Value.slice none 0 0, Value.int IntKind.i64 0, Value.int IntKind.i64 0] }, Value.int IntKind.i64 0] }] := by kernel_rfl
theorem un_109 : Try.prog.underlying 109 = some (TypeDesc.tuple { toList := [108, 26] }) := by kernel_rfl
theorem zv_109 : zvA Try.prog 109 = some (.v (Value.tuple { toList := [Value.agg { toList := [Value.pointer none, Value.slice none 0 0, Value.int IntKind.i64 0, Value.int IntKind.i64 0] }, Value.int IntKind.i64 0] })) := by kernel_rfl
theorem sz_112 : szOf Try.prog 112 = some 1 := by kernel_rfl
theorem ag_112 : aggOf Try.prog 112 = some false := by kernel_rfl
theorem by_112 : byOf Try.prog 112 = some 8 := by kernel_rfl
theorem ze_112 : zeroOf Try.prog 112 = some [Value.nilFunc] := by kernel_rfl
theorem zv_112 : zvA Try.prog 112 = some (.v (Value.nilFunc)) := by kernel_rfl
theorem sz_113 : szOf Try.prog 113 = some 1 := by kernel_rfl
theorem ag_113 : aggOf Try.prog 113 = some false := by kernel_rfl
theorem by_113 : byOf Try.prog 113 = some 8 := by kernel_rfl
theorem ze_113 : zeroOf Try.prog 113 = some [Value.nilFunc] := by kernel_rfl
theorem zv_113 : zvA Try.prog 113 = some (.v (Value.nilFunc)) := by kernel_rfl
theorem sz_116 : szOf Try.prog 116 = some 1 := by kernel_rfl
theorem ag_116 : aggOf Try.prog 116 = some false := by kernel_rfl
theorem by_116 : byOf Try.prog 116 = some 0 := by kernel_rfl
theorem ze_116 : zeroOf Try.prog 116 = some [Value.tuple { toList := [Value.int IntKind.i64 0, Value.int IntKind.i64 0] }] := by kernel_rfl
theorem un_116 : Try.prog.underlying 116 = some (TypeDesc.tuple { toList := [2, 2] }) := by kernel_rfl
theorem zv_116 : zvA Try.prog 116 = some (.v (Value.tuple { toList := [Value.int IntKind.i64 0, Value.int IntKind.i64 0] })) := by kernel_rfl
theorem sz_118 : szOf Try.prog 118 = some 1 := by kernel_rfl
theorem ag_118 : aggOf Try.prog 118 = some false := by kernel_rfl
theorem by_118 : byOf Try.prog 118 = some 8 := by kernel_rfl
theorem ze_118 : zeroOf Try.prog 118 = some [Value.nilFunc] := by kernel_rfl
theorem zv_118 : zvA Try.prog 118 = some (.v (Value.nilFunc)) := by kernel_rfl
theorem sz_126 : szOf Try.prog 126 = some 1 := by kernel_rfl
theorem ag_126 : aggOf Try.prog 126 = some false := by kernel_rfl
theorem by_126 : byOf Try.prog 126 = some 8 := by kernel_rfl
theorem ze_126 : zeroOf Try.prog 126 = some [Value.nilFunc] := by kernel_rfl
theorem zv_126 : zvA Try.prog 126 = some (.v (Value.nilFunc)) := by kernel_rfl
theorem sz_130 : szOf Try.prog 130 = some 1 := by kernel_rfl
theorem ag_130 : aggOf Try.prog 130 = some false := by kernel_rfl
theorem by_130 : byOf Try.prog 130 = some 8 := by kernel_rfl
theorem ze_130 : zeroOf Try.prog 130 = some [Value.nilFunc] := by kernel_rfl
theorem zv_130 : zvA Try.prog 130 = some (.v (Value.nilFunc)) := by kernel_rfl
theorem sz_134 : szOf Try.prog 134 = some 1 := by kernel_rfl
theorem ag_134 : aggOf Try.prog 134 = some false := by kernel_rfl
theorem sl_134 : slOf Try.prog 134 = some 91 := by kernel_rfl
theorem by_134 : byOf Try.prog 134 = some 24 := by kernel_rfl
theorem ze_134 : zeroOf Try.prog 134 = some [Value.slice none 0 0] := by kernel_rfl
theorem un_134 : Try.prog.underlying 134 = some (TypeDesc.slice 91) := by kernel_rfl
theorem zv_134 : zvA Try.prog 134 = some (.v (Value.slice none 0 0)) := by kernel_rfl
theorem sz_137 : szOf Try.prog 137 = some 4 := by kernel_rfl
theorem ag_137 : aggOf Try.prog 137 = some true := by kernel_rfl
theorem ar_137 : arrOf Try.prog 137 = some (4, 2) := by kernel_rfl
theorem by_137 : byOf Try.prog 137 = some 32 := by kernel_rfl
theorem pl_137 : plOf Try.prog 137 = some (PL.arr 1) := by kernel_rfl
theorem ze_137 : zeroOf Try.prog 137 = some [Value.int IntKind.i64 0, Value.int IntKind.i64 0, Value.int IntKind.i64 0, Value.int IntKind.i64 0] := by kernel_rfl
theorem un_137 : Try.prog.underlying 137 = some (TypeDesc.array 4 2) := by kernel_rfl
theorem zv_137 : zvA Try.prog 137 = some (.agg [.v (Value.int IntKind.i64 0), .v (Value.int IntKind.i64 0), .v (Value.int IntKind.i64 0), .v (Value.int IntKind.i64 0)]) := by kernel_rfl
theorem sz_139 : szOf Try.prog 139 = some 1 := by kernel_rfl
theorem ag_139 : aggOf Try.prog 139 = some false := by kernel_rfl
theorem by_139 : byOf Try.prog 139 = some 8 := by kernel_rfl
theorem ze_139 : zeroOf Try.prog 139 = some [Value.pointer none] := by kernel_rfl
theorem un_139 : Try.prog.underlying 139 = some (TypeDesc.pointer 80) := by kernel_rfl
theorem po_139 : ptrOf Try.prog 139 = some 80 := by kernel_rfl
theorem zv_139 : zvA Try.prog 139 = some (.v (Value.pointer none)) := by kernel_rfl
theorem sz_140 : szOf Try.prog 140 = some 1 := by kernel_rfl
theorem ag_140 : aggOf Try.prog 140 = some false := by kernel_rfl
theorem by_140 : byOf Try.prog 140 = some 8 := by kernel_rfl
theorem ze_140 : zeroOf Try.prog 140 = some [Value.pointer none] := by kernel_rfl
theorem un_140 : Try.prog.underlying 140 = some (TypeDesc.pointer 82) := by kernel_rfl
theorem po_140 : ptrOf Try.prog 140 = some 82 := by kernel_rfl
theorem zv_140 : zvA Try.prog 140 = some (.v (Value.pointer none)) := by kernel_rfl
theorem sz_149 : szOf Try.prog 149 = some 1 := by kernel_rfl
theorem ag_149 : aggOf Try.prog 149 = some false := by kernel_rfl
theorem by_149 : byOf Try.prog 149 = some 8 := by kernel_rfl
theorem ze_149 : zeroOf Try.prog 149 = some [Value.pointer none] := by kernel_rfl
theorem un_149 : Try.prog.underlying 149 = some (TypeDesc.pointer 96) := by kernel_rfl
theorem po_149 : ptrOf Try.prog 149 = some 96 := by kernel_rfl
theorem zv_149 : zvA Try.prog 149 = some (.v (Value.pointer none)) := by kernel_rfl
theorem sz_151 : szOf Try.prog 151 = some 1 := by kernel_rfl
theorem ag_151 : aggOf Try.prog 151 = some false := by kernel_rfl
theorem by_151 : byOf Try.prog 151 = some 8 := by kernel_rfl
theorem ze_151 : zeroOf Try.prog 151 = some [Value.int IntKind.i64 0] := by kernel_rfl
theorem un_151 : Try.prog.underlying 151 = some (TypeDesc.int IntKind.i64) := by kernel_rfl
theorem zv_151 : zvA Try.prog 151 = some (.v (Value.int IntKind.i64 0)) := by kernel_rfl
theorem sz_152 : szOf Try.prog 152 = some 1 := by kernel_rfl
theorem ag_152 : aggOf Try.prog 152 = some false := by kernel_rfl
theorem by_152 : byOf Try.prog 152 = some 0 := by kernel_rfl
theorem ze_152 : zeroOf Try.prog 152 = some [Value.tuple { toList := [Value.int IntKind.i64 0, Value.int IntKind.i64 0] }] := by kernel_rfl
theorem un_152 : Try.prog.underlying 152 = some (TypeDesc.tuple { toList := [3, 151] }) := by kernel_rfl
theorem zv_152 : zvA Try.prog 152 = some (.v (Value.tuple { toList := [Value.int IntKind.i64 0, Value.int IntKind.i64 0] })) := by kernel_rfl
theorem sz_156 : szOf Try.prog 156 = some 1 := by kernel_rfl
theorem ag_156 : aggOf Try.prog 156 = some false := by kernel_rfl
theorem by_156 : byOf Try.prog 156 = some 0 := by kernel_rfl
theorem ze_156 : zeroOf Try.prog 156 = some [Value.tuple { toList := [Value.int IntKind.i64 0, Value.bool false] }] := by kernel_rfl
theorem un_156 : Try.prog.underlying 156 = some (TypeDesc.tuple { toList := [3, 4] }) := by kernel_rfl
theorem zv_156 : zvA Try.prog 156 = some (.v (Value.tuple { toList := [Value.int IntKind.i64 0, Value.bool false] })) := by kernel_rfl
theorem sz_159 : szOf Try.prog 159 = some 1 := by kernel_rfl
theorem ag_159 : aggOf Try.prog 159 = some false := by kernel_rfl
theorem by_159 : byOf Try.prog 159 = some 4 := by kernel_rfl
theorem ze_159 : zeroOf Try.prog 159 = some [Value.int IntKind.u32 0] := by kernel_rfl
theorem un_159 : Try.prog.underlying 159 = some (TypeDesc.int IntKind.u32) := by kernel_rfl
theorem zv_159 : zvA Try.prog 159 = some (.v (Value.int IntKind.u32 0)) := by kernel_rfl
theorem sz_161 : szOf Try.prog 161 = some 1 := by kernel_rfl
theorem ag_161 : aggOf Try.prog 161 = some false := by kernel_rfl
theorem by_161 : byOf Try.prog 161 = some 8 := by kernel_rfl
theorem ze_161 : zeroOf Try.prog 161 = some [Value.int IntKind.u64 0] := by kernel_rfl
theorem un_161 : Try.prog.underlying 161 = some (TypeDesc.int IntKind.u64) := by kernel_rfl
theorem zv_161 : zvA Try.prog 161 = some (.v (Value.int IntKind.u64 0)) := by kernel_rfl
theorem sz_166 : szOf Try.prog 166 = some 1 := by kernel_rfl
theorem ag_166 : aggOf Try.prog 166 = some false := by kernel_rfl
theorem by_166 : byOf Try.prog 166 = some 8 := by kernel_rfl
theorem ze_166 : zeroOf Try.prog 166 = some [Value.int IntKind.u64 0] := by kernel_rfl
theorem un_166 : Try.prog.underlying 166 = some (TypeDesc.int IntKind.u64) := by kernel_rfl
theorem zv_166 : zvA Try.prog 166 = some (.v (Value.int IntKind.u64 0)) := by kernel_rfl
theorem sz_173 : szOf Try.prog 173 = some 1 := by kernel_rfl
theorem ag_173 : aggOf Try.prog 173 = some false := by kernel_rfl
theorem by_173 : byOf Try.prog 173 = some 8 := by kernel_rfl
theorem ze_173 : zeroOf Try.prog 173 = some [Value.pointer none] := by kernel_rfl
theorem un_173 : Try.prog.underlying 173 = some (TypeDesc.pointer 166) := by kernel_rfl
theorem po_173 : ptrOf Try.prog 173 = some 166 := by kernel_rfl
theorem zv_173 : zvA Try.prog 173 = some (.v (Value.pointer none)) := by kernel_rfl
theorem sz_174 : szOf Try.prog 174 = some 1 := by kernel_rfl
theorem ag_174 : aggOf Try.prog 174 = some false := by kernel_rfl
theorem by_174 : byOf Try.prog 174 = some 0 := by kernel_rfl
theorem ze_174 : zeroOf Try.prog 174 = some [Value.tuple { toList := [Value.int IntKind.i64 0, Value.int IntKind.i64 0] }] := by kernel_rfl
theorem un_174 : Try.prog.underlying 174 = some (TypeDesc.tuple { toList := [3, 3] }) := by kernel_rfl
theorem zv_174 : zvA Try.prog 174 = some (.v (Value.tuple { toList := [Value.int IntKind.i64 0, Value.int IntKind.i64 0] })) := by kernel_rfl
theorem pf_6 : plainFn Try.prog 6 = true := by kernel_rfl
theorem pf_12 : plainFn Try.prog 12 = true := by kernel_rfl
theorem pf_13 : plainFn Try.prog 13 = true := by kernel_rfl
theorem pf_14 : plainFn Try.prog 14 = true := by kernel_rfl
theorem pf_15 : plainFn Try.prog 15 = true := by kernel_rfl
theorem pf_16 : plainFn Try.prog 16 = true := by kernel_rfl
theorem pf_17 : plainFn Try.prog 17 = true := by kernel_rfl
theorem pf_23 : plainFn Try.prog 23 = true := by kernel_rfl
theorem pf_24 : plainFn Try.prog 24 = true := by kernel_rfl
theorem pf_25 : plainFn Try.prog 25 = true := by kernel_rfl
theorem pf_26 : plainFn Try.prog 26 = true := by kernel_rfl
theorem pf_27 : plainFn Try.prog 27 = true := by kernel_rfl
theorem pf_28 : plainFn Try.prog 28 = true := by kernel_rfl
theorem pf_29 : plainFn Try.prog 29 = true := by kernel_rfl
theorem pf_30 : plainFn Try.prog 30 = true := by kernel_rfl
theorem pf_31 : plainFn Try.prog 31 = true := by kernel_rfl
theorem pf_39 : plainFn Try.prog 39 = true := by kernel_rfl
theorem pf_40 : plainFn Try.prog 40 = true := by kernel_rfl
theorem pf_41 : plainFn Try.prog 41 = true := by kernel_rfl
theorem pf_42 : plainFn Try.prog 42 = true := by kernel_rfl
theorem pf_43 : plainFn Try.prog 43 = true := by kernel_rfl
theorem pf_44 : plainFn Try.prog 44 = true := by kernel_rfl
theorem pf_45 : plainFn Try.prog 45 = true := by kernel_rfl
theorem pf_46 : plainFn Try.prog 46 = true := by kernel_rfl
theorem pf_47 : plainFn Try.prog 47 = true := by kernel_rfl
theorem pf_48 : plainFn Try.prog 48 = true := by kernel_rfl
theorem pf_50 : plainFn Try.prog 50 = true := by kernel_rfl
theorem pf_51 : plainFn Try.prog 51 = true := by kernel_rfl
theorem pf_52 : plainFn Try.prog 52 = true := by kernel_rfl
theorem pf_53 : plainFn Try.prog 53 = true := by kernel_rfl
theorem pf_54 : plainFn Try.prog 54 = true := by kernel_rfl
theorem pf_55 : plainFn Try.prog 55 = true := by kernel_rfl
theorem pf_56 : plainFn Try.prog 56 = true := by kernel_rfl
theorem pf_57 : plainFn Try.prog 57 = true := by kernel_rfl
theorem pf_58 : plainFn Try.prog 58 = true := by kernel_rfl
theorem pf_59 : plainFn Try.prog 59 = true := by kernel_rfl
theorem pf_60 : plainFn Try.prog 60 = true := by kernel_rfl
theorem pf_61 : plainFn Try.prog 61 = true := by kernel_rfl
theorem pf_62 : plainFn Try.prog 62 = true := by kernel_rfl
theorem pf_63 : plainFn Try.prog 63 = true := by kernel_rfl
theorem pf_64 : plainFn Try.prog 64 = true := by kernel_rfl
theorem pf_65 : plainFn Try.prog 65 = true := by kernel_rfl
theorem pf_66 : plainFn Try.prog 66 = true := by kernel_rfl
theorem pf_67 : plainFn Try.prog 67 = true := by kernel_rfl
theorem pf_68 : plainFn Try.prog 68 = true := by kernel_rfl
theorem pf_69 : plainFn Try.prog 69 = true := by kernel_rfl
theorem pf_70 : plainFn Try.prog 70 = true := by kernel_rfl
theorem pf_74 : plainFn Try.prog 74 = true := by kernel_rfl
theorem pf_75 : plainFn Try.prog 75 = true := by kernel_rfl
theorem pf_76 : plainFn Try.prog 76 = true := by kernel_rfl
theorem pf_77 : plainFn Try.prog 77 = true := by kernel_rfl
theorem pf_78 : plainFn Try.prog 78 = true := by kernel_rfl
theorem pf_79 : plainFn Try.prog 79 = true := by kernel_rfl
theorem pf_80 : plainFn Try.prog 80 = true := by kernel_rfl
theorem pf_81 : plainFn Try.prog 81 = true := by kernel_rfl
theorem pf_82 : plainFn Try.prog 82 = true := by kernel_rfl
theorem pf_83 : plainFn Try.prog 83 = true := by kernel_rfl
theorem pf_84 : plainFn Try.prog 84 = true := by kernel_rfl
theorem pf_85 : plainFn Try.prog 85 = true := by kernel_rfl
theorem pf_86 : plainFn Try.prog 86 = true := by kernel_rfl
theorem pf_87 : plainFn Try.prog 87 = true := by kernel_rfl
theorem pf_88 : plainFn Try.prog 88 = true := by kernel_rfl
theorem pf_89 : plainFn Try.prog 89 = true := by kernel_rfl
theorem pf_90 : plainFn Try.prog 90 = true := by kernel_rfl
theorem pf_91 : plainFn Try.prog 91 = true := by kernel_rfl
theorem pf_92 : plainFn Try.prog 92 = true := by kernel_rfl
theorem pf_93 : plainFn Try.prog 93 = true := by kernel_rfl
theorem pf_95 : plainFn Try.prog 95 = true := by kernel_rfl
theorem pf_96 : plainFn Try.prog 96 = true := by kernel_rfl
theorem pf_97 : plainFn Try.prog 97 = true := by kernel_rfl
theorem pf_98 : plainFn Try.prog 98 = true := by kernel_rfl
theorem pf_99 : plainFn Try.prog 99 = true := by kernel_rfl
theorem pf_100 : plainFn Try.prog 100 = true := by kernel_rfl
theorem pf_101 : plainFn Try.prog 101 = true := by kernel_rfl
theorem pf_102 : plainFn Try.prog 102 = true := by kernel_rfl
theorem pf_103 : plainFn Try.prog 103 = true := by kernel_rfl
theorem pf_104 : plainFn Try.prog 104 = true := by kernel_rfl
theorem pf_105 : plainFn Try.prog 105 = true := by kernel_rfl
theorem pf_108 : plainFn Try.prog 108 = true := by kernel_rfl
theorem pf_109 : plainFn Try.prog 109 = true := by kernel_rfl
theorem pf_110 : plainFn Try.prog 110 = true := by kernel_rfl
theorem pf_111 : plainFn Try.prog 111 = true := by kernel_rfl
theorem pf_112 : plainFn Try.prog 112 = true := by kernel_rfl
theorem pf_113 : plainFn Try.prog 113 = true := by kernel_rfl
theorem pf_114 : plainFn Try.prog 114 = true := by kernel_rfl
theorem pf_115 : plainFn Try.prog 115 = true := by kernel_rfl
theorem pf_116 : plainFn Try.prog 116 = true := by kernel_rfl
theorem pf_117 : plainFn Try.prog 117 = true := by kernel_rfl
theorem pf_118 : plainFn Try.prog 118 = true := by kernel_rfl
theorem pf_119 : plainFn Try.prog 119 = true := by kernel_rfl
theorem pf_120 : plainFn Try.prog 120 = true := by kernel_rfl
theorem pf_126 : plainFn Try.prog 126 = true := by kernel_rfl
theorem pf_127 : plainFn Try.prog 127 = true := by kernel_rfl
theorem pf_128 : plainFn Try.prog 128 = true := by kernel_rfl
theorem pf_129 : plainFn Try.prog 129 = true := by kernel_rfl
theorem pf_130 : plainFn Try.prog 130 = true := by kernel_rfl
theorem pf_133 : plainFn Try.prog 133 = true := by kernel_rfl
theorem mixed : Try.prog.follows .mixedOrders = true := by kernel_rfl
attribute [go_sem] sz_0 ag_0 by_0 ze_0 un_0 zv_0 sz_1 ag_1 by_1 ze_1 zv_1 sz_2 ag_2 by_2 ze_2 un_2 zv_2 sz_3 ag_3 by_3 ze_3 un_3 zv_3 sz_4 ag_4 by_4 ze_4 un_4 zv_4 sz_5 ag_5 by_5 ze_5 un_5 zv_5 sz_6 ag_6 by_6 ze_6 un_6 zv_6 sz_7 ag_7 by_7 pl_7 ze_7 eq_7 ko_7 zv_7 fl_7_0 fl_7_1 fl_7_2 fl_7_3 sz_8 ag_8 by_8 pl_8 ze_8 eq_8 ko_8 zv_8 fl_8_0 fl_8_1 fl_8_2 fl_8_3 sz_9 ag_9 by_9 ze_9 un_9 zv_9 sz_10 ag_10 by_10 ze_10 un_10 zv_10 sz_22 ag_22 sl_22 by_22 ze_22 un_22 zv_22 sz_26 ag_26 by_26 ze_26 un_26 zv_26 sz_30 ag_30 by_30 ze_30 un_30 zv_30 sz_33 ag_33 by_33 pl_33 ze_33 eq_33 ko_33 zv_33 fl_33_0 fl_33_1 fl_33_2 sz_34 ag_34 by_34 ze_34 un_34 zv_34 sz_37 ag_37 by_37 pl_37 ze_37 eq_37 zv_37 fl_37_0 fl_37_1 fl_37_2 fl_37_3 fl_37_4 fl_37_5 fl_37_6 fl_37_7 fl_37_8 fl_37_9 sz_38 ag_38 by_38 ze_38 un_38 zv_38 sz_40 ag_40 by_40 ze_40 un_40 zv_40 sz_44 ag_44 sl_44 by_44 ze_44 un_44 zv_44 sz_46 ag_46 by_46 pl_46 ze_46 zv_46 fl_46_0 fl_46_1 fl_46_2 fl_46_3 fl_46_4 sz_53 ag_53 by_53 ze_53 un_53 zv_53 sz_65 ag_65 sl_65 by_65 ze_65 un_65 zv_65 sz_67 ag_67 by_67 ze_67 un_67 po_67 zv_67 sz_68 ag_68 by_68 ze_68 un_68 po_68 zv_68 sz_70 ag_70 by_70 pl_70 ze_70 zv_70 fl_70_0 fl_70_1 sz_72 ag_72 by_72 ze_72 un_72 zv_72 sz_76 ag_76 by_76 ze_76 zv_76 sz_77 ag_77 sl_77 by_77 ze_77 un_77 zv_77 sz_78 ag_78 sl_78 by_78 ze_78 un_78 zv_78 sz_80 ag_80 by_80 pl_80 ze_80 zv_80 fl_80_0 fl_80_1 fl_80_2 fl_80_3 fl_80_4 fl_80_5 sz_82 ag_82 by_82 pl_82 ze_82 zv_82 fl_82_0 fl_82_1 fl_82_2 fl_82_3 fl_82_4 fl_82_5 fl_82_6 fl_82_7 fl_82_8 fl_82_9 fl_82_10 sz_83 ag_83 by_83 ze_83 un_83 zv_83 sz_86 ag_86 by_86 ze_86 un_86 po_86 zv_86 sz_87 ag_87 by_87 ze_87 un_87 zv_87 sz_91 ag_91 by_91 pl_91 ze_91 eq_91 ko_91 zv_91 fl_91_0 fl_91_1 sz_93 ag_93 by_93 pl_93 ze_93 zv_93 fl_93_0 fl_93_1 sz_94 ag_94 sl_94 by_94 ze_94 un_94 zv_94 sz_96 ag_96 by_96 pl_96 ze_96 zv_96 fl_96_0 sz_97 ag_97 by_97 ze_97 un_97 mp_97 zv_97 sz_98 ag_98 by_98 ze_98 un_98 mp_98 zv_98 sz_100 ag_100 by_100 pl_100 ze_100 zv_100 fl_100_0 fl_100_1 fl_100_2 fl_100_3 fl_100_4 fl_100_5 fl_100_6 fl_100_7 fl_100_8 sz_108 ag_108 by_108 pl_108 ze_108 zv_108 fl_108_0 fl_108_1 fl_108_2 fl_108_3 sz_109 ag_109 by_109 ze_109 un_109 zv_109 sz_112 ag_112 by_112 ze_112 zv_112 sz_113 ag_113 by_113 ze_113 zv_113 sz_116 ag_116 by_116 ze_116 un_116 zv_116 sz_118 ag_118 by_118 ze_118 zv_118 sz_126 ag_126 by_126 ze_126 zv_126 sz_130 ag_130 by_130 ze_130 zv_130 sz_134 ag_134 sl_134 by_134 ze_134 un_134 zv_134 sz_137 ag_137 ar_137 by_137 pl_137 ze_137 un_137 zv_137 sz_139 ag_139 by_139 ze_139 un_139 po_139 zv_139 sz_140 ag_140 by_140 ze_140 un_140 po_140 zv_140 sz_149 ag_149 by_149 ze_149 un_149 po_149 zv_149 sz_151 ag_151 by_151 ze_151 un_151 zv_151 sz_152 ag_152 by_152 ze_152 un_152 zv_152 sz_156 ag_156 by_156 ze_156 un_156 zv_156 sz_159 ag_159 by_159 ze_159 un_159 zv_159 sz_161 ag_161 by_161 ze_161 un_161 zv_161 sz_166 ag_166 by_166 ze_166 un_166 zv_166 sz_173 ag_173 by_173 ze_173 un_173 po_173 zv_173 sz_174 ag_174 by_174 ze_174 un_174 zv_174 pf_6 pf_12 pf_13 pf_14 pf_15 pf_16 pf_17 pf_23 pf_24 pf_25 pf_26 pf_27 pf_28 pf_29 pf_30 pf_31 pf_39 pf_40 pf_41 pf_42 pf_43 pf_44 pf_45 pf_46 pf_47 pf_48 pf_50 pf_51 pf_52 pf_53 pf_54 pf_55 pf_56 pf_57 pf_58 pf_59 pf_60 pf_61 pf_62 pf_63 pf_64 pf_65 pf_66 pf_67 pf_68 pf_69 pf_70 pf_74 pf_75 pf_76 pf_77 pf_78 pf_79 pf_80 pf_81 pf_82 pf_83 pf_84 pf_85 pf_86 pf_87 pf_88 pf_89 pf_90 pf_91 pf_92 pf_93 pf_95 pf_96 pf_97 pf_98 pf_99 pf_100 pf_101 pf_102 pf_103 pf_104 pf_105 pf_108 pf_109 pf_110 pf_111 pf_112 pf_113 pf_114 pf_115 pf_116 pf_117 pf_118 pf_119 pf_120 pf_126 pf_127 pf_128 pf_129 pf_130 pf_133
end Pm
end Go.Proofs.Ytiipggfhjkalfaa
