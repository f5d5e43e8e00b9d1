import Derived.Test.YtahamnipffckhaaDoorAm11
import Derived.Test.YtahamnipffckhaaDoorProg
set_option linter.unusedVariables false
namespace Go.Proofs.YtahamnipffckhaaDoor
open Go
@[go_sem] theorem aggT_0 : aggT Tryd.prog 0 = some false := by kernel_rfl
@[go_sem] theorem szT_0 : szT Tryd.prog 0 = some 1 := by kernel_rfl
@[go_sem] theorem bytT_0 : bytT Tryd.prog 0 = some 0 := by kernel_rfl
@[go_sem] theorem ifcT_0 : ifcT Tryd.prog 0 = true := by kernel_rfl
@[go_sem] theorem aggT_1 : aggT Tryd.prog 1 = some false := by kernel_rfl
@[go_sem] theorem szT_1 : szT Tryd.prog 1 = some 1 := by kernel_rfl
@[go_sem] theorem bytT_1 : bytT Tryd.prog 1 = some 8 := by kernel_rfl
@[go_sem] theorem zeroT_1 : zeroT Tryd.prog 1 = some [.pv .nilfn] := by kernel_rfl
@[go_sem] theorem ifcT_1 : ifcT Tryd.prog 1 = true := by kernel_rfl
@[go_sem] theorem aggT_2 : aggT Tryd.prog 2 = some false := by kernel_rfl
@[go_sem] theorem szT_2 : szT Tryd.prog 2 = some 1 := by kernel_rfl
@[go_sem] theorem bytT_2 : bytT Tryd.prog 2 = some 8 := by kernel_rfl
@[go_sem] theorem zeroT_2 : zeroT Tryd.prog 2 = some [.pv (.int .i64 0)] := by kernel_rfl
@[go_sem] theorem intT_2 : intT Tryd.prog 2 = some .i64 := by kernel_rfl
@[go_sem] theorem ifcT_2 : ifcT Tryd.prog 2 = true := by kernel_rfl
@[go_sem] theorem aggT_3 : aggT Tryd.prog 3 = some false := by kernel_rfl
@[go_sem] theorem szT_3 : szT Tryd.prog 3 = some 1 := by kernel_rfl
@[go_sem] theorem bytT_3 : bytT Tryd.prog 3 = some 8 := by kernel_rfl
@[go_sem] theorem zeroT_3 : zeroT Tryd.prog 3 = some [.pv (.int .i64 0)] := by kernel_rfl
@[go_sem] theorem intT_3 : intT Tryd.prog 3 = some .i64 := by kernel_rfl
@[go_sem] theorem ifcT_3 : ifcT Tryd.prog 3 = true := by kernel_rfl
@[go_sem] theorem aggT_4 : aggT Tryd.prog 4 = some false := by kernel_rfl
@[go_sem] theorem szT_4 : szT Tryd.prog 4 = some 1 := by kernel_rfl
@[go_sem] theorem bytT_4 : bytT Tryd.prog 4 = some 1 := by kernel_rfl
@[go_sem] theorem zeroT_4 : zeroT Tryd.prog 4 = some [.pv (.bool false)] := by kernel_rfl
@[go_sem] theorem boolT_4 : boolT Tryd.prog 4 = true := by kernel_rfl
@[go_sem] theorem ifcT_4 : ifcT Tryd.prog 4 = true := by kernel_rfl
@[go_sem] theorem aggT_5 : aggT Tryd.prog 5 = some false := by kernel_rfl
@[go_sem] theorem szT_5 : szT Tryd.prog 5 = some 1 := by kernel_rfl
@[go_sem] theorem bytT_5 : bytT Tryd.prog 5 = some 1 := by kernel_rfl
@[go_sem] theorem zeroT_5 : zeroT Tryd.prog 5 = some [.pv (.int .u8 0)] := by kernel_rfl
@[go_sem] theorem intT_5 : intT Tryd.prog 5 = some .u8 := by kernel_rfl
@[go_sem] theorem ifcT_5 : ifcT Tryd.prog 5 = true := by kernel_rfl
@[go_sem] theorem aggT_8 : aggT Tryd.prog 8 = some true := by kernel_rfl
@[go_sem] theorem szT_8 : szT Tryd.prog 8 = some 4 := by kernel_rfl
@[go_sem] theorem bytT_8 : bytT Tryd.prog 8 = some 24 := by kernel_rfl
@[go_sem] theorem zeroT_8 : zeroT Tryd.prog 8 = some [.pv (.int .i64 0), .pv (.int .i64 0), .pv (.bool false), .pv (.int .u8 0)] := by kernel_rfl
@[go_sem] theorem ifcT_8 : ifcT Tryd.prog 8 = true := by kernel_rfl
@[go_sem] theorem blt_8 : (Tryd.prog.built 8 []).isSome = true := by kernel_rfl
@[go_sem] theorem faT_8_0 : faT Tryd.prog 8 0 = some 0 := by kernel_rfl
@[go_sem] theorem plT_8_0 : plT Tryd.prog 8 0 = some (0, 1) := by kernel_rfl
@[go_sem] theorem faT_8_1 : faT Tryd.prog 8 1 = some 1 := by kernel_rfl
@[go_sem] theorem plT_8_1 : plT Tryd.prog 8 1 = some (1, 1) := by kernel_rfl
@[go_sem] theorem faT_8_2 : faT Tryd.prog 8 2 = some 2 := by kernel_rfl
@[go_sem] theorem plT_8_2 : plT Tryd.prog 8 2 = some (2, 1) := by kernel_rfl
@[go_sem] theorem faT_8_3 : faT Tryd.prog 8 3 = some 3 := by kernel_rfl
@[go_sem] theorem plT_8_3 : plT Tryd.prog 8 3 = some (3, 1) := by kernel_rfl
@[go_sem] theorem aggT_9 : aggT Tryd.prog 9 = some false := by kernel_rfl
@[go_sem] theorem szT_9 : szT Tryd.prog 9 = some 1 := by kernel_rfl
@[go_sem] theorem bytT_9 : bytT Tryd.prog 9 = some 16 := by kernel_rfl
@[go_sem] theorem zeroT_9 : zeroT Tryd.prog 9 = some [.pv (.str ⟨#[]⟩)] := by kernel_rfl
@[go_sem] theorem lnT_9 : lnT Tryd.prog 9 = some true := by kernel_rfl
@[go_sem] theorem ifcT_9 : ifcT Tryd.prog 9 = true := by kernel_rfl
@[go_sem] theorem aggT_10 : aggT Tryd.prog 10 = some false := by kernel_rfl
@[go_sem] theorem szT_10 : szT Tryd.prog 10 = some 1 := by kernel_rfl
@[go_sem] theorem bytT_10 : bytT Tryd.prog 10 = some 16 := by kernel_rfl
@[go_sem] theorem zeroT_10 : zeroT Tryd.prog 10 = some [.pv (.str ⟨#[]⟩)] := by kernel_rfl
@[go_sem] theorem lnT_10 : lnT Tryd.prog 10 = some true := by kernel_rfl
@[go_sem] theorem ifcT_10 : ifcT Tryd.prog 10 = true := by kernel_rfl
@[go_sem] theorem aggT_11 : aggT Tryd.prog 11 = some false := by kernel_rfl
@[go_sem] theorem szT_11 : szT Tryd.prog 11 = some 1 := by kernel_rfl
@[go_sem] theorem bytT_11 : bytT Tryd.prog 11 = some 16 := by kernel_rfl
@[go_sem] theorem zeroT_11 : zeroT Tryd.prog 11 = some [.pv (.str ⟨#[]⟩)] := by kernel_rfl
@[go_sem] theorem lnT_11 : lnT Tryd.prog 11 = some true := by kernel_rfl
@[go_sem] theorem ifcT_11 : ifcT Tryd.prog 11 = true := by kernel_rfl
@[go_sem] theorem aggT_14 : aggT Tryd.prog 14 = some true := by kernel_rfl
@[go_sem] theorem szT_14 : szT Tryd.prog 14 = some 2 := by kernel_rfl
@[go_sem] theorem bytT_14 : bytT Tryd.prog 14 = some 24 := by kernel_rfl
@[go_sem] theorem zeroT_14 : zeroT Tryd.prog 14 = some [.pv (.str ⟨#[]⟩), .pv (.int .u64 0)] := by kernel_rfl
@[go_sem] theorem ifcT_14 : ifcT Tryd.prog 14 = true := by kernel_rfl
@[go_sem] theorem blt_14 : (Tryd.prog.built 14 []).isSome = true := by kernel_rfl
@[go_sem] theorem faT_14_0 : faT Tryd.prog 14 0 = some 0 := by kernel_rfl
@[go_sem] theorem plT_14_0 : plT Tryd.prog 14 0 = some (0, 1) := by kernel_rfl
@[go_sem] theorem faT_14_1 : faT Tryd.prog 14 1 = some 1 := by kernel_rfl
@[go_sem] theorem plT_14_1 : plT Tryd.prog 14 1 = some (1, 1) := by kernel_rfl
@[go_sem] theorem aggT_15 : aggT Tryd.prog 15 = some false := by kernel_rfl
@[go_sem] theorem szT_15 : szT Tryd.prog 15 = some 1 := by kernel_rfl
@[go_sem] theorem bytT_15 : bytT Tryd.prog 15 = some 8 := by kernel_rfl
@[go_sem] theorem zeroT_15 : zeroT Tryd.prog 15 = some [.pv .nilp] := by kernel_rfl
@[go_sem] theorem ptrT_15 : ptrT Tryd.prog 15 = true := by kernel_rfl
@[go_sem] theorem ifcT_15 : ifcT Tryd.prog 15 = true := by kernel_rfl
@[go_sem] theorem aggT_16 : aggT Tryd.prog 16 = some false := by kernel_rfl
@[go_sem] theorem szT_16 : szT Tryd.prog 16 = some 1 := by kernel_rfl
@[go_sem] theorem bytT_16 : bytT Tryd.prog 16 = some 8 := by kernel_rfl
@[go_sem] theorem zeroT_16 : zeroT Tryd.prog 16 = some [.pv .nilp] := by kernel_rfl
@[go_sem] theorem ptrT_16 : ptrT Tryd.prog 16 = true := by kernel_rfl
@[go_sem] theorem ifcT_16 : ifcT Tryd.prog 16 = true := by kernel_rfl
@[go_sem] theorem aggT_17 : aggT Tryd.prog 17 = some false := by kernel_rfl
@[go_sem] theorem szT_17 : szT Tryd.prog 17 = some 1 := by kernel_rfl
@[go_sem] theorem bytT_17 : bytT Tryd.prog 17 = some 8 := by kernel_rfl
@[go_sem] theorem zeroT_17 : zeroT Tryd.prog 17 = some [.pv .nilp] := by kernel_rfl
@[go_sem] theorem ptrT_17 : ptrT Tryd.prog 17 = true := by kernel_rfl
@[go_sem] theorem ifcT_17 : ifcT Tryd.prog 17 = true := by kernel_rfl
@[go_sem] theorem aggT_19 : aggT Tryd.prog 19 = some true := by kernel_rfl
@[go_sem] theorem szT_19 : szT Tryd.prog 19 = some 1 := by kernel_rfl
@[go_sem] theorem bytT_19 : bytT Tryd.prog 19 = some 8 := by kernel_rfl
@[go_sem] theorem zeroT_19 : zeroT Tryd.prog 19 = some [.pv .nilp] := by kernel_rfl
@[go_sem] theorem ifcT_19 : ifcT Tryd.prog 19 = true := by kernel_rfl
@[go_sem] theorem blt_19 : (Tryd.prog.built 19 []).isSome = true := by kernel_rfl
@[go_sem] theorem faT_19_0 : faT Tryd.prog 19 0 = some 0 := by kernel_rfl
@[go_sem] theorem plT_19_0 : plT Tryd.prog 19 0 = some (0, 1) := by kernel_rfl
@[go_sem] theorem aggT_20 : aggT Tryd.prog 20 = some false := by kernel_rfl
@[go_sem] theorem szT_20 : szT Tryd.prog 20 = some 1 := by kernel_rfl
@[go_sem] theorem bytT_20 : bytT Tryd.prog 20 = some 16 := by kernel_rfl
@[go_sem] theorem zeroT_20 : zeroT Tryd.prog 20 = some [.pv .nilifc] := by kernel_rfl
@[go_sem] theorem aggT_21 : aggT Tryd.prog 21 = some false := by kernel_rfl
@[go_sem] theorem szT_21 : szT Tryd.prog 21 = some 1 := by kernel_rfl
@[go_sem] theorem bytT_21 : bytT Tryd.prog 21 = some 4 := by kernel_rfl
@[go_sem] theorem zeroT_21 : zeroT Tryd.prog 21 = some [.pv (.int .i32 0)] := by kernel_rfl
@[go_sem] theorem intT_21 : intT Tryd.prog 21 = some .i32 := by kernel_rfl
@[go_sem] theorem ifcT_21 : ifcT Tryd.prog 21 = true := by kernel_rfl
@[go_sem] theorem aggT_22 : aggT Tryd.prog 22 = some false := by kernel_rfl
@[go_sem] theorem szT_22 : szT Tryd.prog 22 = some 1 := by kernel_rfl
@[go_sem] theorem bytT_22 : bytT Tryd.prog 22 = some 24 := by kernel_rfl
@[go_sem] theorem slS_22 : slS Tryd.prog 22 = some (9, 1) := by kernel_rfl
@[go_sem] theorem zeroT_22 : zeroT Tryd.prog 22 = some [.nils] := by kernel_rfl
@[go_sem] theorem lnT_22 : lnT Tryd.prog 22 = some false := by kernel_rfl
@[go_sem] theorem ifcT_22 : ifcT Tryd.prog 22 = true := by kernel_rfl
@[go_sem] theorem aggT_23 : aggT Tryd.prog 23 = some false := by kernel_rfl
@[go_sem] theorem szT_23 : szT Tryd.prog 23 = some 1 := by kernel_rfl
@[go_sem] theorem bytT_23 : bytT Tryd.prog 23 = some 24 := by kernel_rfl
@[go_sem] theorem slS_23 : slS Tryd.prog 23 = some (52, 5) := by kernel_rfl
@[go_sem] theorem zeroT_23 : zeroT Tryd.prog 23 = some [.nils] := by kernel_rfl
@[go_sem] theorem lnT_23 : lnT Tryd.prog 23 = some false := by kernel_rfl
@[go_sem] theorem ifcT_23 : ifcT Tryd.prog 23 = true := by kernel_rfl
@[go_sem] theorem aggT_24 : aggT Tryd.prog 24 = some false := by kernel_rfl
@[go_sem] theorem szT_24 : szT Tryd.prog 24 = some 1 := by kernel_rfl
@[go_sem] theorem bytT_24 : bytT Tryd.prog 24 = some 24 := by kernel_rfl
@[go_sem] theorem slS_24 : slS Tryd.prog 24 = some (42, 9) := by kernel_rfl
@[go_sem] theorem zeroT_24 : zeroT Tryd.prog 24 = some [.nils] := by kernel_rfl
@[go_sem] theorem lnT_24 : lnT Tryd.prog 24 = some false := by kernel_rfl
@[go_sem] theorem ifcT_24 : ifcT Tryd.prog 24 = true := by kernel_rfl
@[go_sem] theorem aggT_25 : aggT Tryd.prog 25 = some false := by kernel_rfl
@[go_sem] theorem szT_25 : szT Tryd.prog 25 = some 1 := by kernel_rfl
@[go_sem] theorem bytT_25 : bytT Tryd.prog 25 = some 24 := by kernel_rfl
@[go_sem] theorem slS_25 : slS Tryd.prog 25 = some (27, 4) := by kernel_rfl
@[go_sem] theorem zeroT_25 : zeroT Tryd.prog 25 = some [.nils] := by kernel_rfl
@[go_sem] theorem lnT_25 : lnT Tryd.prog 25 = some false := by kernel_rfl
@[go_sem] theorem ifcT_25 : ifcT Tryd.prog 25 = true := by kernel_rfl
@[go_sem] theorem aggT_27 : aggT Tryd.prog 27 = some true := by kernel_rfl
@[go_sem] theorem szT_27 : szT Tryd.prog 27 = some 4 := by kernel_rfl
@[go_sem] theorem bytT_27 : bytT Tryd.prog 27 = some 56 := by kernel_rfl
@[go_sem] theorem zeroT_27 : zeroT Tryd.prog 27 = some [.pv (.int .i64 0), .pv (.str ⟨#[]⟩), .pv (.int .i64 0), .nils] := by kernel_rfl
@[go_sem] theorem ifcT_27 : ifcT Tryd.prog 27 = true := by kernel_rfl
@[go_sem] theorem blt_27 : (Tryd.prog.built 27 []).isSome = true := by kernel_rfl
@[go_sem] theorem faT_27_0 : faT Tryd.prog 27 0 = some 0 := by kernel_rfl
@[go_sem] theorem plT_27_0 : plT Tryd.prog 27 0 = some (0, 1) := by kernel_rfl
@[go_sem] theorem faT_27_1 : faT Tryd.prog 27 1 = some 1 := by kernel_rfl
@[go_sem] theorem plT_27_1 : plT Tryd.prog 27 1 = some (1, 1) := by kernel_rfl
@[go_sem] theorem faT_27_2 : faT Tryd.prog 27 2 = some 2 := by kernel_rfl
@[go_sem] theorem plT_27_2 : plT Tryd.prog 27 2 = some (2, 1) := by kernel_rfl
@[go_sem] theorem faT_27_3 : faT Tryd.prog 27 3 = some 3 := by kernel_rfl
@[go_sem] theorem plT_27_3 : plT Tryd.prog 27 3 = some (3, 1) := by kernel_rfl
@[go_sem] theorem aggT_29 : aggT Tryd.prog 29 = some true := by kernel_rfl
@[go_sem] theorem szT_29 : szT Tryd.prog 29 = some 11 := by kernel_rfl
@[go_sem] theorem bytT_29 : bytT Tryd.prog 29 = some 224 := by kernel_rfl
@[go_sem] theorem zeroT_29 : zeroT Tryd.prog 29 = some [.nils, .nils, .nils, .nils, .nils, .nils, .pv (.int .i64 0), .pv (.str ⟨#[]⟩), .pv (.int .i64 0), .nils, .nils] := by kernel_rfl
@[go_sem] theorem ifcT_29 : ifcT Tryd.prog 29 = true := by kernel_rfl
@[go_sem] theorem blt_29 : (Tryd.prog.built 29 []).isSome = true := by kernel_rfl
@[go_sem] theorem faT_29_0 : faT Tryd.prog 29 0 = some 0 := by kernel_rfl
@[go_sem] theorem plT_29_0 : plT Tryd.prog 29 0 = some (0, 1) := by kernel_rfl
@[go_sem] theorem faT_29_1 : faT Tryd.prog 29 1 = some 1 := by kernel_rfl
@[go_sem] theorem plT_29_1 : plT Tryd.prog 29 1 = some (1, 1) := by kernel_rfl
@[go_sem] theorem faT_29_2 : faT Tryd.prog 29 2 = some 2 := by kernel_rfl
@[go_sem] theorem plT_29_2 : plT Tryd.prog 29 2 = some (2, 1) := by kernel_rfl
@[go_sem] theorem faT_29_3 : faT Tryd.prog 29 3 = some 3 := by kernel_rfl
@[go_sem] theorem plT_29_3 : plT Tryd.prog 29 3 = some (3, 1) := by kernel_rfl
@[go_sem] theorem faT_29_4 : faT Tryd.prog 29 4 = some 4 := by kernel_rfl
@[go_sem] theorem plT_29_4 : plT Tryd.prog 29 4 = some (4, 1) := by kernel_rfl
@[go_sem] theorem faT_29_5 : faT Tryd.prog 29 5 = some 5 := by kernel_rfl
@[go_sem] theorem plT_29_5 : plT Tryd.prog 29 5 = some (5, 1) := by kernel_rfl
@[go_sem] theorem faT_29_6 : faT Tryd.prog 29 6 = some 6 := by kernel_rfl
@[go_sem] theorem plT_29_6 : plT Tryd.prog 29 6 = some (6, 4) := by kernel_rfl
@[go_sem] theorem faT_29_7 : faT Tryd.prog 29 7 = some 10 := by kernel_rfl
@[go_sem] theorem plT_29_7 : plT Tryd.prog 29 7 = some (10, 1) := by kernel_rfl
@[go_sem] theorem aggT_30 : aggT Tryd.prog 30 = some false := by kernel_rfl
@[go_sem] theorem szT_30 : szT Tryd.prog 30 = some 1 := by kernel_rfl
@[go_sem] theorem bytT_30 : bytT Tryd.prog 30 = some 24 := by kernel_rfl
@[go_sem] theorem slS_30 : slS Tryd.prog 30 = some (3, 1) := by kernel_rfl
@[go_sem] theorem zeroT_30 : zeroT Tryd.prog 30 = some [.nils] := by kernel_rfl
@[go_sem] theorem lnT_30 : lnT Tryd.prog 30 = some false := by kernel_rfl
@[go_sem] theorem ifcT_30 : ifcT Tryd.prog 30 = true := by kernel_rfl
@[go_sem] theorem aggT_32 : aggT Tryd.prog 32 = some false := by kernel_rfl
@[go_sem] theorem szT_32 : szT Tryd.prog 32 = some 1 := by kernel_rfl
@[go_sem] theorem bytT_32 : bytT Tryd.prog 32 = some 8 := by kernel_rfl
@[go_sem] theorem zeroT_32 : zeroT Tryd.prog 32 = some [.pv (.int .i64 0)] := by kernel_rfl
@[go_sem] theorem intT_32 : intT Tryd.prog 32 = some .i64 := by kernel_rfl
@[go_sem] theorem ifcT_32 : ifcT Tryd.prog 32 = true := by kernel_rfl
@[go_sem] theorem aggT_34 : aggT Tryd.prog 34 = some false := by kernel_rfl
@[go_sem] theorem szT_34 : szT Tryd.prog 34 = some 1 := by kernel_rfl
@[go_sem] theorem bytT_34 : bytT Tryd.prog 34 = some 24 := by kernel_rfl
@[go_sem] theorem slS_34 : slS Tryd.prog 34 = some (38, 6) := by kernel_rfl
@[go_sem] theorem zeroT_34 : zeroT Tryd.prog 34 = some [.nils] := by kernel_rfl
@[go_sem] theorem lnT_34 : lnT Tryd.prog 34 = some false := by kernel_rfl
@[go_sem] theorem ifcT_34 : ifcT Tryd.prog 34 = true := by kernel_rfl
@[go_sem] theorem aggT_35 : aggT Tryd.prog 35 = some false := by kernel_rfl
@[go_sem] theorem szT_35 : szT Tryd.prog 35 = some 1 := by kernel_rfl
@[go_sem] theorem bytT_35 : bytT Tryd.prog 35 = some 0 := by kernel_rfl
@[go_sem] theorem ifcT_35 : ifcT Tryd.prog 35 = true := by kernel_rfl
@[go_sem] theorem aggT_38 : aggT Tryd.prog 38 = some true := by kernel_rfl
@[go_sem] theorem szT_38 : szT Tryd.prog 38 = some 6 := by kernel_rfl
@[go_sem] theorem bytT_38 : bytT Tryd.prog 38 = some 72 := by kernel_rfl
@[go_sem] theorem zeroT_38 : zeroT Tryd.prog 38 = some [.pv (.int .i64 0), .pv (.int .i64 0), .pv (.int .i64 0), .pv (.str ⟨#[]⟩), .pv (.int .i64 0), .nils] := by kernel_rfl
@[go_sem] theorem ifcT_38 : ifcT Tryd.prog 38 = true := by kernel_rfl
@[go_sem] theorem blt_38 : (Tryd.prog.built 38 []).isSome = true := by kernel_rfl
@[go_sem] theorem faT_38_0 : faT Tryd.prog 38 0 = some 0 := by kernel_rfl
@[go_sem] theorem plT_38_0 : plT Tryd.prog 38 0 = some (0, 1) := by kernel_rfl
@[go_sem] theorem faT_38_1 : faT Tryd.prog 38 1 = some 1 := by kernel_rfl
@[go_sem] theorem plT_38_1 : plT Tryd.prog 38 1 = some (1, 1) := by kernel_rfl
@[go_sem] theorem faT_38_2 : faT Tryd.prog 38 2 = some 2 := by kernel_rfl
@[go_sem] theorem plT_38_2 : plT Tryd.prog 38 2 = some (2, 4) := by kernel_rfl
@[go_sem] theorem aggT_42 : aggT Tryd.prog 42 = some true := by kernel_rfl
@[go_sem] theorem szT_42 : szT Tryd.prog 42 = some 9 := by kernel_rfl
@[go_sem] theorem bytT_42 : bytT Tryd.prog 42 = some 144 := by kernel_rfl
@[go_sem] theorem zeroT_42 : zeroT Tryd.prog 42 = some [.pv (.bool false), .pv (.str ⟨#[]⟩), .pv (.str ⟨#[]⟩), .pv (.int .i64 0), .pv (.str ⟨#[]⟩), .pv (.int .i64 0), .nils, .nils, .nils] := by kernel_rfl
@[go_sem] theorem ifcT_42 : ifcT Tryd.prog 42 = true := by kernel_rfl
@[go_sem] theorem blt_42 : (Tryd.prog.built 42 []).isSome = true := by kernel_rfl
@[go_sem] theorem faT_42_0 : faT Tryd.prog 42 0 = some 0 := by kernel_rfl
@[go_sem] theorem plT_42_0 : plT Tryd.prog 42 0 = some (0, 1) := by kernel_rfl
@[go_sem] theorem faT_42_1 : faT Tryd.prog 42 1 = some 1 := by kernel_rfl
@[go_sem] theorem plT_42_1 : plT Tryd.prog 42 1 = some (1, 1) := by kernel_rfl
@[go_sem] theorem faT_42_2 : faT Tryd.prog 42 2 = some 2 := by kernel_rfl
@[go_sem] theorem plT_42_2 : plT Tryd.prog 42 2 = some (2, 1) := by kernel_rfl
@[go_sem] theorem faT_42_3 : faT Tryd.prog 42 3 = some 3 := by kernel_rfl
@[go_sem] theorem plT_42_3 : plT Tryd.prog 42 3 = some (3, 4) := by kernel_rfl
@[go_sem] theorem faT_42_4 : faT Tryd.prog 42 4 = some 7 := by kernel_rfl
@[go_sem] theorem plT_42_4 : plT Tryd.prog 42 4 = some (7, 1) := by kernel_rfl
@[go_sem] theorem faT_42_5 : faT Tryd.prog 42 5 = some 8 := by kernel_rfl
@[go_sem] theorem plT_42_5 : plT Tryd.prog 42 5 = some (8, 1) := by kernel_rfl
@[go_sem] theorem aggT_43 : aggT Tryd.prog 43 = some false := by kernel_rfl
@[go_sem] theorem szT_43 : szT Tryd.prog 43 = some 1 := by kernel_rfl
@[go_sem] theorem bytT_43 : bytT Tryd.prog 43 = some 0 := by kernel_rfl
@[go_sem] theorem ifcT_43 : ifcT Tryd.prog 43 = true := by kernel_rfl
@[go_sem] theorem aggT_52 : aggT Tryd.prog 52 = some true := by kernel_rfl
@[go_sem] theorem szT_52 : szT Tryd.prog 52 = some 5 := by kernel_rfl
@[go_sem] theorem bytT_52 : bytT Tryd.prog 52 = some 72 := by kernel_rfl
@[go_sem] theorem zeroT_52 : zeroT Tryd.prog 52 = some [.pv (.str ⟨#[]⟩), .pv (.int .i64 0), .pv (.str ⟨#[]⟩), .pv (.int .i64 0), .nils] := by kernel_rfl
@[go_sem] theorem ifcT_52 : ifcT Tryd.prog 52 = true := by kernel_rfl
@[go_sem] theorem blt_52 : (Tryd.prog.built 52 []).isSome = true := by kernel_rfl
@[go_sem] theorem faT_52_0 : faT Tryd.prog 52 0 = some 0 := by kernel_rfl
@[go_sem] theorem plT_52_0 : plT Tryd.prog 52 0 = some (0, 1) := by kernel_rfl
@[go_sem] theorem faT_52_1 : faT Tryd.prog 52 1 = some 1 := by kernel_rfl
@[go_sem] theorem plT_52_1 : plT Tryd.prog 52 1 = some (1, 4) := by kernel_rfl
@[go_sem] theorem aggT_56 : aggT Tryd.prog 56 = some false := by kernel_rfl
@[go_sem] theorem szT_56 : szT Tryd.prog 56 = some 1 := by kernel_rfl
@[go_sem] theorem bytT_56 : bytT Tryd.prog 56 = some 0 := by kernel_rfl
@[go_sem] theorem ifcT_56 : ifcT Tryd.prog 56 = true := by kernel_rfl
@[go_sem] theorem aggT_62 : aggT Tryd.prog 62 = some false := by kernel_rfl
@[go_sem] theorem szT_62 : szT Tryd.prog 62 = some 1 := by kernel_rfl
@[go_sem] theorem bytT_62 : bytT Tryd.prog 62 = some 8 := by kernel_rfl
@[go_sem] theorem zeroT_62 : zeroT Tryd.prog 62 = some [.pv (.int .i64 0)] := by kernel_rfl
@[go_sem] theorem intT_62 : intT Tryd.prog 62 = some .i64 := by kernel_rfl
@[go_sem] theorem ifcT_62 : ifcT Tryd.prog 62 = true := by kernel_rfl
@[go_sem] theorem aggT_63 : aggT Tryd.prog 63 = some false := by kernel_rfl
@[go_sem] theorem szT_63 : szT Tryd.prog 63 = some 1 := by kernel_rfl
@[go_sem] theorem bytT_63 : bytT Tryd.prog 63 = some 8 := by kernel_rfl
@[go_sem] theorem zeroT_63 : zeroT Tryd.prog 63 = some [.pv .nilp] := by kernel_rfl
@[go_sem] theorem ptrT_63 : ptrT Tryd.prog 63 = true := by kernel_rfl
@[go_sem] theorem ifcT_63 : ifcT Tryd.prog 63 = true := by kernel_rfl
@[go_sem] theorem aggT_64 : aggT Tryd.prog 64 = some false := by kernel_rfl
@[go_sem] theorem szT_64 : szT Tryd.prog 64 = some 1 := by kernel_rfl
@[go_sem] theorem bytT_64 : bytT Tryd.prog 64 = some 8 := by kernel_rfl
@[go_sem] theorem zeroT_64 : zeroT Tryd.prog 64 = some [.pv .nilm] := by kernel_rfl
@[go_sem] theorem mapK_64 : mapK Tryd.prog 64 = some (1, some (.pv (.int .i64 0))) := by kernel_rfl
@[go_sem] theorem ifcT_64 : ifcT Tryd.prog 64 = true := by kernel_rfl
@[go_sem] theorem aggT_66 : aggT Tryd.prog 66 = some true := by kernel_rfl
@[go_sem] theorem szT_66 : szT Tryd.prog 66 = some 12 := by kernel_rfl
@[go_sem] theorem bytT_66 : bytT Tryd.prog 66 = some 232 := by kernel_rfl
@[go_sem] theorem zeroT_66 : zeroT Tryd.prog 66 = some [.nils, .nils, .nils, .nils, .nils, .nils, .pv (.int .i64 0), .pv (.str ⟨#[]⟩), .pv (.int .i64 0), .nils, .nils, .pv .nilm] := by kernel_rfl
@[go_sem] theorem ifcT_66 : ifcT Tryd.prog 66 = true := by kernel_rfl
@[go_sem] theorem blt_66 : (Tryd.prog.built 66 []).isSome = true := by kernel_rfl
@[go_sem] theorem faT_66_0 : faT Tryd.prog 66 0 = some 0 := by kernel_rfl
@[go_sem] theorem plT_66_0 : plT Tryd.prog 66 0 = some (0, 11) := by kernel_rfl
@[go_sem] theorem faT_66_1 : faT Tryd.prog 66 1 = some 11 := by kernel_rfl
@[go_sem] theorem plT_66_1 : plT Tryd.prog 66 1 = some (11, 1) := by kernel_rfl
@[go_sem] theorem aggT_67 : aggT Tryd.prog 67 = some false := by kernel_rfl
@[go_sem] theorem szT_67 : szT Tryd.prog 67 = some 1 := by kernel_rfl
@[go_sem] theorem bytT_67 : bytT Tryd.prog 67 = some 8 := by kernel_rfl
@[go_sem] theorem zeroT_67 : zeroT Tryd.prog 67 = some [.pv .nilfn] := by kernel_rfl
@[go_sem] theorem ifcT_67 : ifcT Tryd.prog 67 = true := by kernel_rfl
@[go_sem] theorem aggT_68 : aggT Tryd.prog 68 = some false := by kernel_rfl
@[go_sem] theorem szT_68 : szT Tryd.prog 68 = some 1 := by kernel_rfl
@[go_sem] theorem bytT_68 : bytT Tryd.prog 68 = some 24 := by kernel_rfl
@[go_sem] theorem slS_68 : slS Tryd.prog 68 = some (67, 1) := by kernel_rfl
@[go_sem] theorem zeroT_68 : zeroT Tryd.prog 68 = some [.nils] := by kernel_rfl
@[go_sem] theorem lnT_68 : lnT Tryd.prog 68 = some false := by kernel_rfl
@[go_sem] theorem ifcT_68 : ifcT Tryd.prog 68 = true := by kernel_rfl
@[go_sem] theorem aggT_69 : aggT Tryd.prog 69 = some false := by kernel_rfl
@[go_sem] theorem szT_69 : szT Tryd.prog 69 = some 1 := by kernel_rfl
@[go_sem] theorem bytT_69 : bytT Tryd.prog 69 = some 8 := by kernel_rfl
@[go_sem] theorem zeroT_69 : zeroT Tryd.prog 69 = some [.pv .nilfn] := by kernel_rfl
@[go_sem] theorem ifcT_69 : ifcT Tryd.prog 69 = true := by kernel_rfl
@[go_sem] theorem aggT_72 : aggT Tryd.prog 72 = some false := by kernel_rfl
@[go_sem] theorem szT_72 : szT Tryd.prog 72 = some 1 := by kernel_rfl
@[go_sem] theorem bytT_72 : bytT Tryd.prog 72 = some 8 := by kernel_rfl
@[go_sem] theorem zeroT_72 : zeroT Tryd.prog 72 = some [.pv .nilfn] := by kernel_rfl
@[go_sem] theorem ifcT_72 : ifcT Tryd.prog 72 = true := by kernel_rfl
@[go_sem] theorem aggT_76 : aggT Tryd.prog 76 = some true := by kernel_rfl
@[go_sem] theorem szT_76 : szT Tryd.prog 76 = some 2 := by kernel_rfl
@[go_sem] theorem bytT_76 : bytT Tryd.prog 76 = some 32 := by kernel_rfl
@[go_sem] theorem zeroT_76 : zeroT Tryd.prog 76 = some [.nils, .pv (.int .i64 0)] := by kernel_rfl
@[go_sem] theorem ifcT_76 : ifcT Tryd.prog 76 = true := by kernel_rfl
@[go_sem] theorem blt_76 : (Tryd.prog.built 76 []).isSome = true := by kernel_rfl
@[go_sem] theorem faT_76_0 : faT Tryd.prog 76 0 = some 0 := by kernel_rfl
@[go_sem] theorem plT_76_0 : plT Tryd.prog 76 0 = some (0, 1) := by kernel_rfl
@[go_sem] theorem faT_76_1 : faT Tryd.prog 76 1 = some 1 := by kernel_rfl
@[go_sem] theorem plT_76_1 : plT Tryd.prog 76 1 = some (1, 1) := by kernel_rfl
@[go_sem] theorem aggT_77 : aggT Tryd.prog 77 = some false := by kernel_rfl
@[go_sem] theorem szT_77 : szT Tryd.prog 77 = some 1 := by kernel_rfl
@[go_sem] theorem bytT_77 : bytT Tryd.prog 77 = some 24 := by kernel_rfl
@[go_sem] theorem slS_77 : slS Tryd.prog 77 = some (76, 2) := by kernel_rfl
@[go_sem] theorem zeroT_77 : zeroT Tryd.prog 77 = some [.nils] := by kernel_rfl
@[go_sem] theorem lnT_77 : lnT Tryd.prog 77 = some false := by kernel_rfl
@[go_sem] theorem ifcT_77 : ifcT Tryd.prog 77 = true := by kernel_rfl
@[go_sem] theorem aggT_78 : aggT Tryd.prog 78 = some false := by kernel_rfl
@[go_sem] theorem szT_78 : szT Tryd.prog 78 = some 1 := by kernel_rfl
@[go_sem] theorem bytT_78 : bytT Tryd.prog 78 = some 8 := by kernel_rfl
@[go_sem] theorem zeroT_78 : zeroT Tryd.prog 78 = some [.pv .nilm] := by kernel_rfl
@[go_sem] theorem mapK_78 : mapK Tryd.prog 78 = some (1, some (.pv (.bool false))) := by kernel_rfl
@[go_sem] theorem ifcT_78 : ifcT Tryd.prog 78 = true := by kernel_rfl
@[go_sem] theorem aggT_81 : aggT Tryd.prog 81 = some false := by kernel_rfl
@[go_sem] theorem szT_81 : szT Tryd.prog 81 = some 1 := by kernel_rfl
@[go_sem] theorem bytT_81 : bytT Tryd.prog 81 = some 8 := by kernel_rfl
@[go_sem] theorem zeroT_81 : zeroT Tryd.prog 81 = some [.pv .nilfn] := by kernel_rfl
@[go_sem] theorem ifcT_81 : ifcT Tryd.prog 81 = true := by kernel_rfl
@[go_sem] theorem aggT_82 : aggT Tryd.prog 82 = some false := by kernel_rfl
@[go_sem] theorem szT_82 : szT Tryd.prog 82 = some 1 := by kernel_rfl
@[go_sem] theorem bytT_82 : bytT Tryd.prog 82 = some 8 := by kernel_rfl
@[go_sem] theorem zeroT_82 : zeroT Tryd.prog 82 = some [.pv .nilm] := by kernel_rfl
@[go_sem] theorem mapK_82 : mapK Tryd.prog 82 = some (3, some (.agg [.pv (.int .i64 0), .pv (.str ⟨#[]⟩), .pv (.int .i64 0), .nils])) := by kernel_rfl
@[go_sem] theorem ifcT_82 : ifcT Tryd.prog 82 = true := by kernel_rfl
@[go_sem] theorem aggT_83 : aggT Tryd.prog 83 = some false := by kernel_rfl
@[go_sem] theorem szT_83 : szT Tryd.prog 83 = some 1 := by kernel_rfl
@[go_sem] theorem bytT_83 : bytT Tryd.prog 83 = some 8 := by kernel_rfl
@[go_sem] theorem zeroT_83 : zeroT Tryd.prog 83 = some [.pv .nilfn] := by kernel_rfl
@[go_sem] theorem ifcT_83 : ifcT Tryd.prog 83 = true := by kernel_rfl
@[go_sem] theorem aggT_84 : aggT Tryd.prog 84 = some false := by kernel_rfl
@[go_sem] theorem szT_84 : szT Tryd.prog 84 = some 1 := by kernel_rfl
@[go_sem] theorem bytT_84 : bytT Tryd.prog 84 = some 8 := by kernel_rfl
@[go_sem] theorem zeroT_84 : zeroT Tryd.prog 84 = some [.pv .nilfn] := by kernel_rfl
@[go_sem] theorem ifcT_84 : ifcT Tryd.prog 84 = true := by kernel_rfl
@[go_sem] theorem aggT_87 : aggT Tryd.prog 87 = some true := by kernel_rfl
@[go_sem] theorem szT_87 : szT Tryd.prog 87 = some 2 := by kernel_rfl
@[go_sem] theorem bytT_87 : bytT Tryd.prog 87 = some 24 := by kernel_rfl
@[go_sem] theorem zeroT_87 : zeroT Tryd.prog 87 = some [.pv (.str ⟨#[]⟩), .pv (.int .i64 0)] := by kernel_rfl
@[go_sem] theorem ifcT_87 : ifcT Tryd.prog 87 = true := by kernel_rfl
@[go_sem] theorem blt_87 : (Tryd.prog.built 87 []).isSome = true := by kernel_rfl
@[go_sem] theorem faT_87_0 : faT Tryd.prog 87 0 = some 0 := by kernel_rfl
@[go_sem] theorem plT_87_0 : plT Tryd.prog 87 0 = some (0, 1) := by kernel_rfl
@[go_sem] theorem faT_87_1 : faT Tryd.prog 87 1 = some 1 := by kernel_rfl
@[go_sem] theorem plT_87_1 : plT Tryd.prog 87 1 = some (1, 1) := by kernel_rfl
@[go_sem] theorem aggT_88 : aggT Tryd.prog 88 = some false := by kernel_rfl
@[go_sem] theorem szT_88 : szT Tryd.prog 88 = some 1 := by kernel_rfl
@[go_sem] theorem bytT_88 : bytT Tryd.prog 88 = some 8 := by kernel_rfl
@[go_sem] theorem zeroT_88 : zeroT Tryd.prog 88 = some [.pv .nilp] := by kernel_rfl
@[go_sem] theorem ptrT_88 : ptrT Tryd.prog 88 = true := by kernel_rfl
@[go_sem] theorem ifcT_88 : ifcT Tryd.prog 88 = true := by kernel_rfl
@[go_sem] theorem aggT_90 : aggT Tryd.prog 90 = some true := by kernel_rfl
@[go_sem] theorem szT_90 : szT Tryd.prog 90 = some 2 := by kernel_rfl
@[go_sem] theorem bytT_90 : bytT Tryd.prog 90 = some 16 := by kernel_rfl
@[go_sem] theorem zeroT_90 : zeroT Tryd.prog 90 = some [.pv .nilm, .pv (.int .i64 0)] := by kernel_rfl
@[go_sem] theorem ifcT_90 : ifcT Tryd.prog 90 = true := by kernel_rfl
@[go_sem] theorem blt_90 : (Tryd.prog.built 90 []).isSome = true := by kernel_rfl
@[go_sem] theorem faT_90_0 : faT Tryd.prog 90 0 = some 0 := by kernel_rfl
@[go_sem] theorem plT_90_0 : plT Tryd.prog 90 0 = some (0, 1) := by kernel_rfl
@[go_sem] theorem faT_90_1 : faT Tryd.prog 90 1 = some 1 := by kernel_rfl
@[go_sem] theorem plT_90_1 : plT Tryd.prog 90 1 = some (1, 1) := by kernel_rfl
@[go_sem] theorem aggT_92 : aggT Tryd.prog 92 = some false := by kernel_rfl
@[go_sem] theorem szT_92 : szT Tryd.prog 92 = some 1 := by kernel_rfl
@[go_sem] theorem bytT_92 : bytT Tryd.prog 92 = some 8 := by kernel_rfl
@[go_sem] theorem zeroT_92 : zeroT Tryd.prog 92 = some [.pv .nilfn] := by kernel_rfl
@[go_sem] theorem ifcT_92 : ifcT Tryd.prog 92 = true := by kernel_rfl
@[go_sem] theorem aggT_96 : aggT Tryd.prog 96 = some false := by kernel_rfl
@[go_sem] theorem szT_96 : szT Tryd.prog 96 = some 1 := by kernel_rfl
@[go_sem] theorem bytT_96 : bytT Tryd.prog 96 = some 8 := by kernel_rfl
@[go_sem] theorem zeroT_96 : zeroT Tryd.prog 96 = some [.pv .nilfn] := by kernel_rfl
@[go_sem] theorem ifcT_96 : ifcT Tryd.prog 96 = true := by kernel_rfl
@[go_sem] theorem aggT_99 : aggT Tryd.prog 99 = some false := by kernel_rfl
@[go_sem] theorem szT_99 : szT Tryd.prog 99 = some 1 := by kernel_rfl
@[go_sem] theorem bytT_99 : bytT Tryd.prog 99 = some 8 := by kernel_rfl
@[go_sem] theorem zeroT_99 : zeroT Tryd.prog 99 = some [.pv .nilfn] := by kernel_rfl
@[go_sem] theorem ifcT_99 : ifcT Tryd.prog 99 = true := by kernel_rfl
@[go_sem] theorem aggT_100 : aggT Tryd.prog 100 = some false := by kernel_rfl
@[go_sem] theorem szT_100 : szT Tryd.prog 100 = some 1 := by kernel_rfl
@[go_sem] theorem bytT_100 : bytT Tryd.prog 100 = some 8 := by kernel_rfl
@[go_sem] theorem zeroT_100 : zeroT Tryd.prog 100 = some [.pv .nilp] := by kernel_rfl
@[go_sem] theorem ptrT_100 : ptrT Tryd.prog 100 = true := by kernel_rfl
@[go_sem] theorem ifcT_100 : ifcT Tryd.prog 100 = true := by kernel_rfl
@[go_sem] theorem aggT_102 : aggT Tryd.prog 102 = some true := by kernel_rfl
@[go_sem] theorem szT_102 : szT Tryd.prog 102 = some 2 := by kernel_rfl
@[go_sem] theorem bytT_102 : bytT Tryd.prog 102 = some 16 := by kernel_rfl
@[go_sem] theorem zeroT_102 : zeroT Tryd.prog 102 = some [.pv (.int .i64 0), .pv (.int .i64 0)] := by kernel_rfl
@[go_sem] theorem ifcT_102 : ifcT Tryd.prog 102 = true := by kernel_rfl
@[go_sem] theorem blt_102 : (Tryd.prog.built 102 []).isSome = true := by kernel_rfl
@[go_sem] theorem faT_102_0 : faT Tryd.prog 102 0 = some 0 := by kernel_rfl
@[go_sem] theorem plT_102_0 : plT Tryd.prog 102 0 = some (0, 1) := by kernel_rfl
@[go_sem] theorem faT_102_1 : faT Tryd.prog 102 1 = some 1 := by kernel_rfl
@[go_sem] theorem plT_102_1 : plT Tryd.prog 102 1 = some (1, 1) := by kernel_rfl
@[go_sem] theorem aggT_105 : aggT Tryd.prog 105 = some true := by kernel_rfl
@[go_sem] theorem szT_105 : szT Tryd.prog 105 = some 5 := by kernel_rfl
@[go_sem] theorem bytT_105 : bytT Tryd.prog 105 = some 48 := by kernel_rfl
@[go_sem] theorem zeroT_105 : zeroT Tryd.prog 105 = some [.pv (.int .i64 0), .pv (.bool false), .pv (.bool false), .nils, .pv (.bool false)] := by kernel_rfl
@[go_sem] theorem ifcT_105 : ifcT Tryd.prog 105 = true := by kernel_rfl
@[go_sem] theorem blt_105 : (Tryd.prog.built 105 []).isSome = true := by kernel_rfl
@[go_sem] theorem faT_105_0 : faT Tryd.prog 105 0 = some 0 := by kernel_rfl
@[go_sem] theorem plT_105_0 : plT Tryd.prog 105 0 = some (0, 1) := by kernel_rfl
@[go_sem] theorem faT_105_1 : faT Tryd.prog 105 1 = some 1 := by kernel_rfl
@[go_sem] theorem plT_105_1 : plT Tryd.prog 105 1 = some (1, 1) := by kernel_rfl
@[go_sem] theorem faT_105_2 : faT Tryd.prog 105 2 = some 2 := by kernel_rfl
@[go_sem] theorem plT_105_2 : plT Tryd.prog 105 2 = some (2, 1) := by kernel_rfl
@[go_sem] theorem faT_105_3 : faT Tryd.prog 105 3 = some 3 := by kernel_rfl
@[go_sem] theorem plT_105_3 : plT Tryd.prog 105 3 = some (3, 1) := by kernel_rfl
@[go_sem] theorem faT_105_4 : faT Tryd.prog 105 4 = some 4 := by kernel_rfl
@[go_sem] theorem plT_105_4 : plT Tryd.prog 105 4 = some (4, 1) := by kernel_rfl
@[go_sem] theorem aggT_106 : aggT Tryd.prog 106 = some true := by kernel_rfl
@[go_sem] theorem szT_106 : szT Tryd.prog 106 = some 145 := by kernel_rfl
@[go_sem] theorem bytT_106 : bytT Tryd.prog 106 = some 1392 := by kernel_rfl
@[go_sem] theorem slS_106 : slS Tryd.prog 106 = none := by kernel_rfl
@[go_sem] theorem arS_106 : arS Tryd.prog 106 = some (29, 5) := by kernel_rfl
@[go_sem] theorem zeroT_106 : zeroT Tryd.prog 106 = some [.pv (.int .i64 0), .pv (.bool false), .pv (.bool false), .nils, .pv (.bool false), .pv (.int .i64 0), .pv (.bool false), .pv (.bool false), .nils, .pv (.bool false), .pv (.int .i64 0), .pv (.bool false), .pv (.bool false), .nils, .pv (.bool false), .pv (.int .i64 0), .pv (.bool false), .pv (.bool false), .nils, .pv (.bool false), .pv (.int .i64 0), .pv (.bool false), .pv (.bool false), .nils, .pv (.bool false), .pv (.int .i64 0), .pv (.bool false), .pv (.bool false), .nils, .pv (.bool false), .pv (.int .i64 0), .pv (.bool false), .pv (.bool false), .nils, .pv (.bool false), .pv (.int .i64 0), .pv (.bool false), .pv (.bool false), .nils, .pv (.bool false), .pv (.int .i64 0), .pv (.bool false), .pv (.bool false), .nils, .pv (.bool false), .pv (.int .i64 0), .pv (.bool false), .pv (.bool false), .nils, .pv (.bool false), .pv (.int .i64 0), .pv (.bool false), .pv (.bool false), .nils, .pv (.bool false), .pv (.int .i64 0), .pv (.bool false), .pv (.bool false), .nils, .pv (.bool false), .pv (.int .i64 0), .pv (.bool false), .pv (.bool false), .nils, .pv (.bool false), .pv (.int .i64 0), .pv (.bool false), .pv (.bool false), .nils, .pv (.bool false), .pv (.int .i64 0), .pv (.bool false), .pv (.bool false), .nils, .pv (.bool false), .pv (.int .i64 0), .pv (.bool false), .pv (.bool false), .nils, .pv (.bool false), .pv (.int .i64 0), .pv (.bool false), .pv (.bool false), .nils, .pv (.bool false), .pv (.int .i64 0), .pv (.bool false), .pv (.bool false), .nils, .pv (.bool false), .pv (.int .i64 0), .pv (.bool false), .pv (.bool false), .nils, .pv (.bool false), .pv (.int .i64 0), .pv (.bool false), .pv (.bool false), .nils, .pv (.bool false), .pv (.int .i64 0), .pv (.bool false), .pv (.bool false), .nils, .pv (.bool false), .pv (.int .i64 0), .pv (.bool false), .pv (.bool false), .nils, .pv (.bool false), .pv (.int .i64 0), .pv (.bool false), .pv (.bool false), .nils, .pv (.bool false), .pv (.int .i64 0), .pv (.bool false), .pv (.bool false), .nils, .pv (.bool false), .pv (.int .i64 0), .pv (.bool false), .pv (.bool false), .nils, .pv (.bool false), .pv (.int .i64 0), .pv (.bool false), .pv (.bool false), .nils, .pv (.bool false), .pv (.int .i64 0), .pv (.bool false), .pv (.bool false), .nils, .pv (.bool false), .pv (.int .i64 0), .pv (.bool false), .pv (.bool false), .nils, .pv (.bool false), .pv (.int .i64 0), .pv (.bool false), .pv (.bool false), .nils, .pv (.bool false)] := by kernel_rfl
@[go_sem] theorem ifcT_106 : ifcT Tryd.prog 106 = true := by kernel_rfl
@[go_sem] theorem blt_106 : (Tryd.prog.built 106 []).isSome = true := by kernel_rfl
@[go_sem] theorem plT_106_0 : plT Tryd.prog 106 0 = some (0, 5) := by kernel_rfl
@[go_sem] theorem plT_106_1 : plT Tryd.prog 106 1 = some (5, 5) := by kernel_rfl
@[go_sem] theorem plT_106_2 : plT Tryd.prog 106 2 = some (10, 5) := by kernel_rfl
@[go_sem] theorem plT_106_3 : plT Tryd.prog 106 3 = some (15, 5) := by kernel_rfl
@[go_sem] theorem plT_106_4 : plT Tryd.prog 106 4 = some (20, 5) := by kernel_rfl
@[go_sem] theorem plT_106_5 : plT Tryd.prog 106 5 = some (25, 5) := by kernel_rfl
@[go_sem] theorem plT_106_6 : plT Tryd.prog 106 6 = some (30, 5) := by kernel_rfl
@[go_sem] theorem plT_106_7 : plT Tryd.prog 106 7 = some (35, 5) := by kernel_rfl
@[go_sem] theorem plT_106_8 : plT Tryd.prog 106 8 = some (40, 5) := by kernel_rfl
@[go_sem] theorem plT_106_9 : plT Tryd.prog 106 9 = some (45, 5) := by kernel_rfl
@[go_sem] theorem plT_106_10 : plT Tryd.prog 106 10 = some (50, 5) := by kernel_rfl
@[go_sem] theorem plT_106_11 : plT Tryd.prog 106 11 = some (55, 5) := by kernel_rfl
@[go_sem] theorem plT_106_12 : plT Tryd.prog 106 12 = some (60, 5) := by kernel_rfl
@[go_sem] theorem plT_106_13 : plT Tryd.prog 106 13 = some (65, 5) := by kernel_rfl
@[go_sem] theorem plT_106_14 : plT Tryd.prog 106 14 = some (70, 5) := by kernel_rfl
@[go_sem] theorem plT_106_15 : plT Tryd.prog 106 15 = some (75, 5) := by kernel_rfl
@[go_sem] theorem plT_106_16 : plT Tryd.prog 106 16 = some (80, 5) := by kernel_rfl
@[go_sem] theorem plT_106_17 : plT Tryd.prog 106 17 = some (85, 5) := by kernel_rfl
@[go_sem] theorem plT_106_18 : plT Tryd.prog 106 18 = some (90, 5) := by kernel_rfl
@[go_sem] theorem plT_106_19 : plT Tryd.prog 106 19 = some (95, 5) := by kernel_rfl
@[go_sem] theorem plT_106_20 : plT Tryd.prog 106 20 = some (100, 5) := by kernel_rfl
@[go_sem] theorem plT_106_21 : plT Tryd.prog 106 21 = some (105, 5) := by kernel_rfl
@[go_sem] theorem plT_106_22 : plT Tryd.prog 106 22 = some (110, 5) := by kernel_rfl
@[go_sem] theorem plT_106_23 : plT Tryd.prog 106 23 = some (115, 5) := by kernel_rfl
@[go_sem] theorem plT_106_24 : plT Tryd.prog 106 24 = some (120, 5) := by kernel_rfl
@[go_sem] theorem plT_106_25 : plT Tryd.prog 106 25 = some (125, 5) := by kernel_rfl
@[go_sem] theorem plT_106_26 : plT Tryd.prog 106 26 = some (130, 5) := by kernel_rfl
@[go_sem] theorem plT_106_27 : plT Tryd.prog 106 27 = some (135, 5) := by kernel_rfl
@[go_sem] theorem plT_106_28 : plT Tryd.prog 106 28 = some (140, 5) := by kernel_rfl
@[go_sem] theorem plT_106_29 : plT Tryd.prog 106 29 = some (145, 5) := by kernel_rfl
@[go_sem] theorem plT_106_30 : plT Tryd.prog 106 30 = some (150, 5) := by kernel_rfl
@[go_sem] theorem plT_106_31 : plT Tryd.prog 106 31 = some (155, 5) := by kernel_rfl
@[go_sem] theorem plT_106_32 : plT Tryd.prog 106 32 = some (160, 5) := by kernel_rfl
@[go_sem] theorem plT_106_33 : plT Tryd.prog 106 33 = some (165, 5) := by kernel_rfl
@[go_sem] theorem plT_106_34 : plT Tryd.prog 106 34 = some (170, 5) := by kernel_rfl
@[go_sem] theorem plT_106_35 : plT Tryd.prog 106 35 = some (175, 5) := by kernel_rfl
@[go_sem] theorem plT_106_36 : plT Tryd.prog 106 36 = some (180, 5) := by kernel_rfl
@[go_sem] theorem plT_106_37 : plT Tryd.prog 106 37 = some (185, 5) := by kernel_rfl
@[go_sem] theorem plT_106_38 : plT Tryd.prog 106 38 = some (190, 5) := by kernel_rfl
@[go_sem] theorem plT_106_39 : plT Tryd.prog 106 39 = some (195, 5) := by kernel_rfl
@[go_sem] theorem aggT_109 : aggT Tryd.prog 109 = some false := by kernel_rfl
@[go_sem] theorem szT_109 : szT Tryd.prog 109 = some 1 := by kernel_rfl
@[go_sem] theorem bytT_109 : bytT Tryd.prog 109 = some 8 := by kernel_rfl
@[go_sem] theorem zeroT_109 : zeroT Tryd.prog 109 = some [.pv .nilp] := by kernel_rfl
@[go_sem] theorem ptrT_109 : ptrT Tryd.prog 109 = true := by kernel_rfl
@[go_sem] theorem ifcT_109 : ifcT Tryd.prog 109 = true := by kernel_rfl
@[go_sem] theorem aggT_112 : aggT Tryd.prog 112 = some false := by kernel_rfl
@[go_sem] theorem szT_112 : szT Tryd.prog 112 = some 1 := by kernel_rfl
@[go_sem] theorem bytT_112 : bytT Tryd.prog 112 = some 24 := by kernel_rfl
@[go_sem] theorem slS_112 : slS Tryd.prog 112 = some (22, 1) := by kernel_rfl
@[go_sem] theorem zeroT_112 : zeroT Tryd.prog 112 = some [.nils] := by kernel_rfl
@[go_sem] theorem lnT_112 : lnT Tryd.prog 112 = some false := by kernel_rfl
@[go_sem] theorem ifcT_112 : ifcT Tryd.prog 112 = true := by kernel_rfl
@[go_sem] theorem aggT_120 : aggT Tryd.prog 120 = some false := by kernel_rfl
@[go_sem] theorem szT_120 : szT Tryd.prog 120 = some 1 := by kernel_rfl
@[go_sem] theorem bytT_120 : bytT Tryd.prog 120 = some 8 := by kernel_rfl
@[go_sem] theorem zeroT_120 : zeroT Tryd.prog 120 = some [.pv .nilfn] := by kernel_rfl
@[go_sem] theorem ifcT_120 : ifcT Tryd.prog 120 = true := by kernel_rfl
@[go_sem] theorem aggT_121 : aggT Tryd.prog 121 = some false := by kernel_rfl
@[go_sem] theorem szT_121 : szT Tryd.prog 121 = some 1 := by kernel_rfl
@[go_sem] theorem bytT_121 : bytT Tryd.prog 121 = some 0 := by kernel_rfl
@[go_sem] theorem ifcT_121 : ifcT Tryd.prog 121 = true := by kernel_rfl
@[go_sem] theorem aggT_125 : aggT Tryd.prog 125 = some false := by kernel_rfl
@[go_sem] theorem szT_125 : szT Tryd.prog 125 = some 1 := by kernel_rfl
@[go_sem] theorem bytT_125 : bytT Tryd.prog 125 = some 8 := by kernel_rfl
@[go_sem] theorem zeroT_125 : zeroT Tryd.prog 125 = some [.pv (.int .u64 0)] := by kernel_rfl
@[go_sem] theorem intT_125 : intT Tryd.prog 125 = some .u64 := by kernel_rfl
@[go_sem] theorem ifcT_125 : ifcT Tryd.prog 125 = true := by kernel_rfl
@[go_sem] theorem aggT_126 : aggT Tryd.prog 126 = some false := by kernel_rfl
@[go_sem] theorem szT_126 : szT Tryd.prog 126 = some 1 := by kernel_rfl
@[go_sem] theorem bytT_126 : bytT Tryd.prog 126 = some 8 := by kernel_rfl
@[go_sem] theorem zeroT_126 : zeroT Tryd.prog 126 = some [.pv .nilfn] := by kernel_rfl
@[go_sem] theorem ifcT_126 : ifcT Tryd.prog 126 = true := by kernel_rfl
@[go_sem] theorem aggT_129 : aggT Tryd.prog 129 = some true := by kernel_rfl
@[go_sem] theorem szT_129 : szT Tryd.prog 129 = some 256 := by kernel_rfl
@[go_sem] theorem bytT_129 : bytT Tryd.prog 129 = some 256 := by kernel_rfl
@[go_sem] theorem slS_129 : slS Tryd.prog 129 = none := by kernel_rfl
@[go_sem] theorem arS_129 : arS Tryd.prog 129 = some (256, 1) := by kernel_rfl
@[go_sem] theorem zeroT_129 : zeroT Tryd.prog 129 = some [.pv (.bool false), .pv (.bool false), .pv (.bool false), .pv (.bool false), .pv (.bool false), .pv (.bool false), .pv (.bool false), .pv (.bool false), .pv (.bool false), .pv (.bool false), .pv (.bool false), .pv (.bool false), .pv (.bool false), .pv (.bool false), .pv (.bool false), .pv (.bool false), .pv (.bool false), .pv (.bool false), .pv (.bool false), .pv (.bool false), .pv (.bool false), .pv (.bool false), .pv (.bool false), .pv (.bool false), .pv (.bool false), .pv (.bool false), .pv (.bool false), .pv (.bool false), .pv (.bool false), .pv (.bool false), .pv (.bool false), .pv (.bool false), .pv (.bool false), .pv (.bool false), .pv (.bool false), .pv (.bool false), .pv (.bool false), .pv (.bool false), .pv (.bool false), .pv (.bool false), .pv (.bool false), .pv (.bool false), .pv (.bool false), .pv (.bool false), .pv (.bool false), .pv (.bool false), .pv (.bool false), .pv (.bool false), .pv (.bool false), .pv (.bool false), .pv (.bool false), .pv (.bool false), .pv (.bool false), .pv (.bool false), .pv (.bool false), .pv (.bool false), .pv (.bool false), .pv (.bool false), .pv (.bool false), .pv (.bool false), .pv (.bool false), .pv (.bool false), .pv (.bool false), .pv (.bool false), .pv (.bool false), .pv (.bool false), .pv (.bool false), .pv (.bool false), .pv (.bool false), .pv (.bool false), .pv (.bool false), .pv (.bool false), .pv (.bool false), .pv (.bool false), .pv (.bool false), .pv (.bool false), .pv (.bool false), .pv (.bool false), .pv (.bool false), .pv (.bool false), .pv (.bool false), .pv (.bool false), .pv (.bool false), .pv (.bool false), .pv (.bool false), .pv (.bool false), .pv (.bool false), .pv (.bool false), .pv (.bool false), .pv (.bool false), .pv (.bool false), .pv (.bool false), .pv (.bool false), .pv (.bool false), .pv (.bool false), .pv (.bool false), .pv (.bool false), .pv (.bool false), .pv (.bool false), .pv (.bool false), .pv (.bool false), .pv (.bool false), .pv (.bool false), .pv (.bool false), .pv (.bool false), .pv (.bool false), .pv (.bool false), .pv (.bool false), .pv (.bool false), .pv (.bool false), .pv (.bool false), .pv (.bool false), .pv (.bool false), .pv (.bool false), .pv (.bool false), .pv (.bool false), .pv (.bool false), .pv (.bool false), .pv (.bool false), .pv (.bool false), .pv (.bool false), .pv (.bool false), .pv (.bool false), .pv (.bool false), .pv (.bool false), .pv (.bool false), .pv (.bool false), .pv (.bool false), .pv (.bool false), .pv (.bool false), .pv (.bool false), .pv (.bool false), .pv (.bool false), .pv (.bool false), .pv (.bool false), .pv (.bool false), .pv (.bool false), .pv (.bool false), .pv (.bool false), .pv (.bool false), .pv (.bool false), .pv (.bool false), .pv (.bool false), .pv (.bool false), .pv (.bool false), .pv (.bool false), .pv (.bool false), .pv (.bool false), .pv (.bool false), .pv (.bool false), .pv (.bool false), .pv (.bool false), .pv (.bool false), .pv (.bool false), .pv (.bool false), .pv (.bool false), .pv (.bool false), .pv (.bool false), .pv (.bool false), .pv (.bool false), .pv (.bool false), .pv (.bool false), .pv (.bool false), .pv (.bool false), .pv (.bool false), .pv (.bool false), .pv (.bool false), .pv (.bool false), .pv (.bool false), .pv (.bool false), .pv (.bool false), .pv (.bool false), .pv (.bool false), .pv (.bool false), .pv (.bool false), .pv (.bool false), .pv (.bool false), .pv (.bool false), .pv (.bool false), .pv (.bool false), .pv (.bool false), .pv (.bool false), .pv (.bool false), .pv (.bool false), .pv (.bool false), .pv (.bool false), .pv (.bool false), .pv (.bool false), .pv (.bool false), .pv (.bool false), .pv (.bool false), .pv (.bool false), .pv (.bool false), .pv (.bool false), .pv (.bool false), .pv (.bool false), .pv (.bool false), .pv (.bool false), .pv (.bool false), .pv (.bool false), .pv (.bool false), .pv (.bool false), .pv (.bool false), .pv (.bool false), .pv (.bool false), .pv (.bool false), .pv (.bool false), .pv (.bool false), .pv (.bool false), .pv (.bool false), .pv (.bool false), .pv (.bool false), .pv (.bool false), .pv (.bool false), .pv (.bool false), .pv (.bool false), .pv (.bool false), .pv (.bool false), .pv (.bool false), .pv (.bool false), .pv (.bool false), .pv (.bool false), .pv (.bool false), .pv (.bool false), .pv (.bool false), .pv (.bool false), .pv (.bool false), .pv (.bool false), .pv (.bool false), .pv (.bool false), .pv (.bool false), .pv (.bool false), .pv (.bool false), .pv (.bool false), .pv (.bool false), .pv (.bool false), .pv (.bool false), .pv (.bool false), .pv (.bool false), .pv (.bool false), .pv (.bool false), .pv (.bool false), .pv (.bool false), .pv (.bool false), .pv (.bool false), .pv (.bool false), .pv (.bool false), .pv (.bool false), .pv (.bool false), .pv (.bool false), .pv (.bool false), .pv (.bool false), .pv (.bool false), .pv (.bool false), .pv (.bool false), .pv (.bool false)] := by kernel_rfl
@[go_sem] theorem ifcT_129 : ifcT Tryd.prog 129 = true := by kernel_rfl
@[go_sem] theorem blt_129 : (Tryd.prog.built 129 []).isSome = true := by kernel_rfl
@[go_sem] theorem plT_129_0 : plT Tryd.prog 129 0 = some (0, 1) := by kernel_rfl
@[go_sem] theorem plT_129_1 : plT Tryd.prog 129 1 = some (1, 1) := by kernel_rfl
@[go_sem] theorem plT_129_2 : plT Tryd.prog 129 2 = some (2, 1) := by kernel_rfl
@[go_sem] theorem plT_129_3 : plT Tryd.prog 129 3 = some (3, 1) := by kernel_rfl
@[go_sem] theorem plT_129_4 : plT Tryd.prog 129 4 = some (4, 1) := by kernel_rfl
@[go_sem] theorem plT_129_5 : plT Tryd.prog 129 5 = some (5, 1) := by kernel_rfl
@[go_sem] theorem plT_129_6 : plT Tryd.prog 129 6 = some (6, 1) := by kernel_rfl
@[go_sem] theorem plT_129_7 : plT Tryd.prog 129 7 = some (7, 1) := by kernel_rfl
@[go_sem] theorem plT_129_8 : plT Tryd.prog 129 8 = some (8, 1) := by kernel_rfl
@[go_sem] theorem plT_129_9 : plT Tryd.prog 129 9 = some (9, 1) := by kernel_rfl
@[go_sem] theorem plT_129_10 : plT Tryd.prog 129 10 = some (10, 1) := by kernel_rfl
@[go_sem] theorem plT_129_11 : plT Tryd.prog 129 11 = some (11, 1) := by kernel_rfl
@[go_sem] theorem plT_129_12 : plT Tryd.prog 129 12 = some (12, 1) := by kernel_rfl
@[go_sem] theorem plT_129_13 : plT Tryd.prog 129 13 = some (13, 1) := by kernel_rfl
@[go_sem] theorem plT_129_14 : plT Tryd.prog 129 14 = some (14, 1) := by kernel_rfl
@[go_sem] theorem plT_129_15 : plT Tryd.prog 129 15 = some (15, 1) := by kernel_rfl
@[go_sem] theorem plT_129_16 : plT Tryd.prog 129 16 = some (16, 1) := by kernel_rfl
@[go_sem] theorem plT_129_17 : plT Tryd.prog 129 17 = some (17, 1) := by kernel_rfl
@[go_sem] theorem plT_129_18 : plT Tryd.prog 129 18 = some (18, 1) := by kernel_rfl
@[go_sem] theorem plT_129_19 : plT Tryd.prog 129 19 = some (19, 1) := by kernel_rfl
@[go_sem] theorem plT_129_20 : plT Tryd.prog 129 20 = some (20, 1) := by kernel_rfl
@[go_sem] theorem plT_129_21 : plT Tryd.prog 129 21 = some (21, 1) := by kernel_rfl
@[go_sem] theorem plT_129_22 : plT Tryd.prog 129 22 = some (22, 1) := by kernel_rfl
@[go_sem] theorem plT_129_23 : plT Tryd.prog 129 23 = some (23, 1) := by kernel_rfl
@[go_sem] theorem plT_129_24 : plT Tryd.prog 129 24 = some (24, 1) := by kernel_rfl
@[go_sem] theorem plT_129_25 : plT Tryd.prog 129 25 = some (25, 1) := by kernel_rfl
@[go_sem] theorem plT_129_26 : plT Tryd.prog 129 26 = some (26, 1) := by kernel_rfl
@[go_sem] theorem plT_129_27 : plT Tryd.prog 129 27 = some (27, 1) := by kernel_rfl
@[go_sem] theorem plT_129_28 : plT Tryd.prog 129 28 = some (28, 1) := by kernel_rfl
@[go_sem] theorem plT_129_29 : plT Tryd.prog 129 29 = some (29, 1) := by kernel_rfl
@[go_sem] theorem plT_129_30 : plT Tryd.prog 129 30 = some (30, 1) := by kernel_rfl
@[go_sem] theorem plT_129_31 : plT Tryd.prog 129 31 = some (31, 1) := by kernel_rfl
@[go_sem] theorem plT_129_32 : plT Tryd.prog 129 32 = some (32, 1) := by kernel_rfl
@[go_sem] theorem plT_129_33 : plT Tryd.prog 129 33 = some (33, 1) := by kernel_rfl
@[go_sem] theorem plT_129_34 : plT Tryd.prog 129 34 = some (34, 1) := by kernel_rfl
@[go_sem] theorem plT_129_35 : plT Tryd.prog 129 35 = some (35, 1) := by kernel_rfl
@[go_sem] theorem plT_129_36 : plT Tryd.prog 129 36 = some (36, 1) := by kernel_rfl
@[go_sem] theorem plT_129_37 : plT Tryd.prog 129 37 = some (37, 1) := by kernel_rfl
@[go_sem] theorem plT_129_38 : plT Tryd.prog 129 38 = some (38, 1) := by kernel_rfl
@[go_sem] theorem plT_129_39 : plT Tryd.prog 129 39 = some (39, 1) := by kernel_rfl
@[go_sem] theorem aggT_130 : aggT Tryd.prog 130 = some false := by kernel_rfl
@[go_sem] theorem szT_130 : szT Tryd.prog 130 = some 1 := by kernel_rfl
@[go_sem] theorem bytT_130 : bytT Tryd.prog 130 = some 0 := by kernel_rfl
@[go_sem] theorem ifcT_130 : ifcT Tryd.prog 130 = true := by kernel_rfl
@[go_sem] theorem aggT_133 : aggT Tryd.prog 133 = some false := by kernel_rfl
@[go_sem] theorem szT_133 : szT Tryd.prog 133 = some 1 := by kernel_rfl
@[go_sem] theorem bytT_133 : bytT Tryd.prog 133 = some 8 := by kernel_rfl
@[go_sem] theorem zeroT_133 : zeroT Tryd.prog 133 = some [.pv .nilp] := by kernel_rfl
@[go_sem] theorem ptrT_133 : ptrT Tryd.prog 133 = true := by kernel_rfl
@[go_sem] theorem ifcT_133 : ifcT Tryd.prog 133 = true := by kernel_rfl
@[go_sem] theorem aggT_137 : aggT Tryd.prog 137 = some false := by kernel_rfl
@[go_sem] theorem szT_137 : szT Tryd.prog 137 = some 1 := by kernel_rfl
@[go_sem] theorem bytT_137 : bytT Tryd.prog 137 = some 8 := by kernel_rfl
@[go_sem] theorem zeroT_137 : zeroT Tryd.prog 137 = some [.pv (.int .i64 0)] := by kernel_rfl
@[go_sem] theorem intT_137 : intT Tryd.prog 137 = some .i64 := by kernel_rfl
@[go_sem] theorem ifcT_137 : ifcT Tryd.prog 137 = true := by kernel_rfl
@[go_sem] theorem aggT_138 : aggT Tryd.prog 138 = some false := by kernel_rfl
@[go_sem] theorem szT_138 : szT Tryd.prog 138 = some 1 := by kernel_rfl
@[go_sem] theorem bytT_138 : bytT Tryd.prog 138 = some 0 := by kernel_rfl
@[go_sem] theorem ifcT_138 : ifcT Tryd.prog 138 = true := by kernel_rfl
@[go_sem] theorem aggT_142 : aggT Tryd.prog 142 = some false := by kernel_rfl
@[go_sem] theorem szT_142 : szT Tryd.prog 142 = some 1 := by kernel_rfl
@[go_sem] theorem bytT_142 : bytT Tryd.prog 142 = some 0 := by kernel_rfl
@[go_sem] theorem ifcT_142 : ifcT Tryd.prog 142 = true := by kernel_rfl
@[go_sem] theorem aggT_145 : aggT Tryd.prog 145 = some false := by kernel_rfl
@[go_sem] theorem szT_145 : szT Tryd.prog 145 = some 1 := by kernel_rfl
@[go_sem] theorem bytT_145 : bytT Tryd.prog 145 = some 4 := by kernel_rfl
@[go_sem] theorem zeroT_145 : zeroT Tryd.prog 145 = some [.pv (.int .u32 0)] := by kernel_rfl
@[go_sem] theorem intT_145 : intT Tryd.prog 145 = some .u32 := by kernel_rfl
@[go_sem] theorem ifcT_145 : ifcT Tryd.prog 145 = true := by kernel_rfl
@[go_sem] theorem aggT_147 : aggT Tryd.prog 147 = some false := by kernel_rfl
@[go_sem] theorem szT_147 : szT Tryd.prog 147 = some 1 := by kernel_rfl
@[go_sem] theorem bytT_147 : bytT Tryd.prog 147 = some 8 := by kernel_rfl
@[go_sem] theorem zeroT_147 : zeroT Tryd.prog 147 = some [.pv (.int .u64 0)] := by kernel_rfl
@[go_sem] theorem intT_147 : intT Tryd.prog 147 = some .u64 := by kernel_rfl
@[go_sem] theorem ifcT_147 : ifcT Tryd.prog 147 = true := by kernel_rfl
@[go_sem] theorem aggT_149 : aggT Tryd.prog 149 = some false := by kernel_rfl
@[go_sem] theorem szT_149 : szT Tryd.prog 149 = some 1 := by kernel_rfl
@[go_sem] theorem bytT_149 : bytT Tryd.prog 149 = some 0 := by kernel_rfl
@[go_sem] theorem ifcT_149 : ifcT Tryd.prog 149 = true := by kernel_rfl
@[go_sem] theorem aggT_153 : aggT Tryd.prog 153 = some true := by kernel_rfl
@[go_sem] theorem szT_153 : szT Tryd.prog 153 = some 24 := by kernel_rfl
@[go_sem] theorem bytT_153 : bytT Tryd.prog 153 = some 24 := by kernel_rfl
@[go_sem] theorem slS_153 : slS Tryd.prog 153 = none := by kernel_rfl
@[go_sem] theorem arS_153 : arS Tryd.prog 153 = some (24, 1) := by kernel_rfl
@[go_sem] theorem zeroT_153 : zeroT Tryd.prog 153 = some [.pv (.int .u8 0), .pv (.int .u8 0), .pv (.int .u8 0), .pv (.int .u8 0), .pv (.int .u8 0), .pv (.int .u8 0), .pv (.int .u8 0), .pv (.int .u8 0), .pv (.int .u8 0), .pv (.int .u8 0), .pv (.int .u8 0), .pv (.int .u8 0), .pv (.int .u8 0), .pv (.int .u8 0), .pv (.int .u8 0), .pv (.int .u8 0), .pv (.int .u8 0), .pv (.int .u8 0), .pv (.int .u8 0), .pv (.int .u8 0), .pv (.int .u8 0), .pv (.int .u8 0), .pv (.int .u8 0), .pv (.int .u8 0)] := by kernel_rfl
@[go_sem] theorem ifcT_153 : ifcT Tryd.prog 153 = true := by kernel_rfl
@[go_sem] theorem blt_153 : (Tryd.prog.built 153 []).isSome = true := by kernel_rfl
@[go_sem] theorem plT_153_0 : plT Tryd.prog 153 0 = some (0, 1) := by kernel_rfl
@[go_sem] theorem plT_153_1 : plT Tryd.prog 153 1 = some (1, 1) := by kernel_rfl
@[go_sem] theorem plT_153_2 : plT Tryd.prog 153 2 = some (2, 1) := by kernel_rfl
@[go_sem] theorem plT_153_3 : plT Tryd.prog 153 3 = some (3, 1) := by kernel_rfl
@[go_sem] theorem plT_153_4 : plT Tryd.prog 153 4 = some (4, 1) := by kernel_rfl
@[go_sem] theorem plT_153_5 : plT Tryd.prog 153 5 = some (5, 1) := by kernel_rfl
@[go_sem] theorem plT_153_6 : plT Tryd.prog 153 6 = some (6, 1) := by kernel_rfl
@[go_sem] theorem plT_153_7 : plT Tryd.prog 153 7 = some (7, 1) := by kernel_rfl
@[go_sem] theorem plT_153_8 : plT Tryd.prog 153 8 = some (8, 1) := by kernel_rfl
@[go_sem] theorem plT_153_9 : plT Tryd.prog 153 9 = some (9, 1) := by kernel_rfl
@[go_sem] theorem plT_153_10 : plT Tryd.prog 153 10 = some (10, 1) := by kernel_rfl
@[go_sem] theorem plT_153_11 : plT Tryd.prog 153 11 = some (11, 1) := by kernel_rfl
@[go_sem] theorem plT_153_12 : plT Tryd.prog 153 12 = some (12, 1) := by kernel_rfl
@[go_sem] theorem plT_153_13 : plT Tryd.prog 153 13 = some (13, 1) := by kernel_rfl
@[go_sem] theorem plT_153_14 : plT Tryd.prog 153 14 = some (14, 1) := by kernel_rfl
@[go_sem] theorem plT_153_15 : plT Tryd.prog 153 15 = some (15, 1) := by kernel_rfl
@[go_sem] theorem plT_153_16 : plT Tryd.prog 153 16 = some (16, 1) := by kernel_rfl
@[go_sem] theorem plT_153_17 : plT Tryd.prog 153 17 = some (17, 1) := by kernel_rfl
@[go_sem] theorem plT_153_18 : plT Tryd.prog 153 18 = some (18, 1) := by kernel_rfl
@[go_sem] theorem plT_153_19 : plT Tryd.prog 153 19 = some (19, 1) := by kernel_rfl
@[go_sem] theorem plT_153_20 : plT Tryd.prog 153 20 = some (20, 1) := by kernel_rfl
@[go_sem] theorem plT_153_21 : plT Tryd.prog 153 21 = some (21, 1) := by kernel_rfl
@[go_sem] theorem plT_153_22 : plT Tryd.prog 153 22 = some (22, 1) := by kernel_rfl
@[go_sem] theorem plT_153_23 : plT Tryd.prog 153 23 = some (23, 1) := by kernel_rfl
@[go_sem] theorem plT_153_24 : plT Tryd.prog 153 24 = some (24, 1) := by kernel_rfl
@[go_sem] theorem plT_153_25 : plT Tryd.prog 153 25 = some (25, 1) := by kernel_rfl
@[go_sem] theorem plT_153_26 : plT Tryd.prog 153 26 = some (26, 1) := by kernel_rfl
@[go_sem] theorem plT_153_27 : plT Tryd.prog 153 27 = some (27, 1) := by kernel_rfl
@[go_sem] theorem plT_153_28 : plT Tryd.prog 153 28 = some (28, 1) := by kernel_rfl
@[go_sem] theorem plT_153_29 : plT Tryd.prog 153 29 = some (29, 1) := by kernel_rfl
@[go_sem] theorem plT_153_30 : plT Tryd.prog 153 30 = some (30, 1) := by kernel_rfl
@[go_sem] theorem plT_153_31 : plT Tryd.prog 153 31 = some (31, 1) := by kernel_rfl
@[go_sem] theorem plT_153_32 : plT Tryd.prog 153 32 = some (32, 1) := by kernel_rfl
@[go_sem] theorem plT_153_33 : plT Tryd.prog 153 33 = some (33, 1) := by kernel_rfl
@[go_sem] theorem plT_153_34 : plT Tryd.prog 153 34 = some (34, 1) := by kernel_rfl
@[go_sem] theorem plT_153_35 : plT Tryd.prog 153 35 = some (35, 1) := by kernel_rfl
@[go_sem] theorem plT_153_36 : plT Tryd.prog 153 36 = some (36, 1) := by kernel_rfl
@[go_sem] theorem plT_153_37 : plT Tryd.prog 153 37 = some (37, 1) := by kernel_rfl
@[go_sem] theorem plT_153_38 : plT Tryd.prog 153 38 = some (38, 1) := by kernel_rfl
@[go_sem] theorem plT_153_39 : plT Tryd.prog 153 39 = some (39, 1) := by kernel_rfl
@[go_sem] theorem aggT_155 : aggT Tryd.prog 155 = some false := by kernel_rfl
@[go_sem] theorem szT_155 : szT Tryd.prog 155 = some 1 := by kernel_rfl
@[go_sem] theorem bytT_155 : bytT Tryd.prog 155 = some 24 := by kernel_rfl
@[go_sem] theorem slS_155 : slS Tryd.prog 155 = some (5, 1) := by kernel_rfl
@[go_sem] theorem zeroT_155 : zeroT Tryd.prog 155 = some [.nils] := by kernel_rfl
@[go_sem] theorem lnT_155 : lnT Tryd.prog 155 = some false := by kernel_rfl
@[go_sem] theorem ifcT_155 : ifcT Tryd.prog 155 = true := by kernel_rfl
@[go_sem] theorem aggT_156 : aggT Tryd.prog 156 = some false := by kernel_rfl
@[go_sem] theorem szT_156 : szT Tryd.prog 156 = some 1 := by kernel_rfl
@[go_sem] theorem bytT_156 : bytT Tryd.prog 156 = some 0 := by kernel_rfl
@[go_sem] theorem ifcT_156 : ifcT Tryd.prog 156 = true := by kernel_rfl
@[go_sem] theorem aggT_158 : aggT Tryd.prog 158 = some false := by kernel_rfl
@[go_sem] theorem szT_158 : szT Tryd.prog 158 = some 1 := by kernel_rfl
@[go_sem] theorem bytT_158 : bytT Tryd.prog 158 = some 8 := by kernel_rfl
@[go_sem] theorem zeroT_158 : zeroT Tryd.prog 158 = some [.pv (.int .u64 0)] := by kernel_rfl
@[go_sem] theorem intT_158 : intT Tryd.prog 158 = some .u64 := by kernel_rfl
@[go_sem] theorem ifcT_158 : ifcT Tryd.prog 158 = true := by kernel_rfl
@[go_sem] theorem aggT_162 : aggT Tryd.prog 162 = some false := by kernel_rfl
@[go_sem] theorem szT_162 : szT Tryd.prog 162 = some 1 := by kernel_rfl
@[go_sem] theorem bytT_162 : bytT Tryd.prog 162 = some 8 := by kernel_rfl
@[go_sem] theorem zeroT_162 : zeroT Tryd.prog 162 = some [.pv .nilp] := by kernel_rfl
@[go_sem] theorem ptrT_162 : ptrT Tryd.prog 162 = true := by kernel_rfl
@[go_sem] theorem ifcT_162 : ifcT Tryd.prog 162 = true := by kernel_rfl
@[go_sem] theorem aggT_167 : aggT Tryd.prog 167 = some true := by kernel_rfl
@[go_sem] theorem szT_167 : szT Tryd.prog 167 = some 20 := by kernel_rfl
@[go_sem] theorem bytT_167 : bytT Tryd.prog 167 = some 160 := by kernel_rfl
@[go_sem] theorem slS_167 : slS Tryd.prog 167 = none := by kernel_rfl
@[go_sem] theorem arS_167 : arS Tryd.prog 167 = some (20, 1) := by kernel_rfl
@[go_sem] theorem zeroT_167 : zeroT Tryd.prog 167 = some [.pv (.int .u64 0), .pv (.int .u64 0), .pv (.int .u64 0), .pv (.int .u64 0), .pv (.int .u64 0), .pv (.int .u64 0), .pv (.int .u64 0), .pv (.int .u64 0), .pv (.int .u64 0), .pv (.int .u64 0), .pv (.int .u64 0), .pv (.int .u64 0), .pv (.int .u64 0), .pv (.int .u64 0), .pv (.int .u64 0), .pv (.int .u64 0), .pv (.int .u64 0), .pv (.int .u64 0), .pv (.int .u64 0), .pv (.int .u64 0)] := by kernel_rfl
@[go_sem] theorem ifcT_167 : ifcT Tryd.prog 167 = true := by kernel_rfl
@[go_sem] theorem blt_167 : (Tryd.prog.built 167 []).isSome = true := by kernel_rfl
@[go_sem] theorem plT_167_0 : plT Tryd.prog 167 0 = some (0, 1) := by kernel_rfl
@[go_sem] theorem plT_167_1 : plT Tryd.prog 167 1 = some (1, 1) := by kernel_rfl
@[go_sem] theorem plT_167_2 : plT Tryd.prog 167 2 = some (2, 1) := by kernel_rfl
@[go_sem] theorem plT_167_3 : plT Tryd.prog 167 3 = some (3, 1) := by kernel_rfl
@[go_sem] theorem plT_167_4 : plT Tryd.prog 167 4 = some (4, 1) := by kernel_rfl
@[go_sem] theorem plT_167_5 : plT Tryd.prog 167 5 = some (5, 1) := by kernel_rfl
@[go_sem] theorem plT_167_6 : plT Tryd.prog 167 6 = some (6, 1) := by kernel_rfl
@[go_sem] theorem plT_167_7 : plT Tryd.prog 167 7 = some (7, 1) := by kernel_rfl
@[go_sem] theorem plT_167_8 : plT Tryd.prog 167 8 = some (8, 1) := by kernel_rfl
@[go_sem] theorem plT_167_9 : plT Tryd.prog 167 9 = some (9, 1) := by kernel_rfl
@[go_sem] theorem plT_167_10 : plT Tryd.prog 167 10 = some (10, 1) := by kernel_rfl
@[go_sem] theorem plT_167_11 : plT Tryd.prog 167 11 = some (11, 1) := by kernel_rfl
@[go_sem] theorem plT_167_12 : plT Tryd.prog 167 12 = some (12, 1) := by kernel_rfl
@[go_sem] theorem plT_167_13 : plT Tryd.prog 167 13 = some (13, 1) := by kernel_rfl
@[go_sem] theorem plT_167_14 : plT Tryd.prog 167 14 = some (14, 1) := by kernel_rfl
@[go_sem] theorem plT_167_15 : plT Tryd.prog 167 15 = some (15, 1) := by kernel_rfl
@[go_sem] theorem plT_167_16 : plT Tryd.prog 167 16 = some (16, 1) := by kernel_rfl
@[go_sem] theorem plT_167_17 : plT Tryd.prog 167 17 = some (17, 1) := by kernel_rfl
@[go_sem] theorem plT_167_18 : plT Tryd.prog 167 18 = some (18, 1) := by kernel_rfl
@[go_sem] theorem plT_167_19 : plT Tryd.prog 167 19 = some (19, 1) := by kernel_rfl
@[go_sem] theorem plT_167_20 : plT Tryd.prog 167 20 = some (20, 1) := by kernel_rfl
@[go_sem] theorem plT_167_21 : plT Tryd.prog 167 21 = some (21, 1) := by kernel_rfl
@[go_sem] theorem plT_167_22 : plT Tryd.prog 167 22 = some (22, 1) := by kernel_rfl
@[go_sem] theorem plT_167_23 : plT Tryd.prog 167 23 = some (23, 1) := by kernel_rfl
@[go_sem] theorem plT_167_24 : plT Tryd.prog 167 24 = some (24, 1) := by kernel_rfl
@[go_sem] theorem plT_167_25 : plT Tryd.prog 167 25 = some (25, 1) := by kernel_rfl
@[go_sem] theorem plT_167_26 : plT Tryd.prog 167 26 = some (26, 1) := by kernel_rfl
@[go_sem] theorem plT_167_27 : plT Tryd.prog 167 27 = some (27, 1) := by kernel_rfl
@[go_sem] theorem plT_167_28 : plT Tryd.prog 167 28 = some (28, 1) := by kernel_rfl
@[go_sem] theorem plT_167_29 : plT Tryd.prog 167 29 = some (29, 1) := by kernel_rfl
@[go_sem] theorem plT_167_30 : plT Tryd.prog 167 30 = some (30, 1) := by kernel_rfl
@[go_sem] theorem plT_167_31 : plT Tryd.prog 167 31 = some (31, 1) := by kernel_rfl
@[go_sem] theorem plT_167_32 : plT Tryd.prog 167 32 = some (32, 1) := by kernel_rfl
@[go_sem] theorem plT_167_33 : plT Tryd.prog 167 33 = some (33, 1) := by kernel_rfl
@[go_sem] theorem plT_167_34 : plT Tryd.prog 167 34 = some (34, 1) := by kernel_rfl
@[go_sem] theorem plT_167_35 : plT Tryd.prog 167 35 = some (35, 1) := by kernel_rfl
@[go_sem] theorem plT_167_36 : plT Tryd.prog 167 36 = some (36, 1) := by kernel_rfl
@[go_sem] theorem plT_167_37 : plT Tryd.prog 167 37 = some (37, 1) := by kernel_rfl
@[go_sem] theorem plT_167_38 : plT Tryd.prog 167 38 = some (38, 1) := by kernel_rfl
@[go_sem] theorem plT_167_39 : plT Tryd.prog 167 39 = some (39, 1) := by kernel_rfl
@[go_sem] theorem aggT_168 : aggT Tryd.prog 168 = some true := by kernel_rfl
@[go_sem] theorem szT_168 : szT Tryd.prog 168 = some 65 := by kernel_rfl
@[go_sem] theorem bytT_168 : bytT Tryd.prog 168 = some 65 := by kernel_rfl
@[go_sem] theorem slS_168 : slS Tryd.prog 168 = none := by kernel_rfl
@[go_sem] theorem arS_168 : arS Tryd.prog 168 = some (65, 1) := by kernel_rfl
@[go_sem] theorem zeroT_168 : zeroT Tryd.prog 168 = some [.pv (.int .u8 0), .pv (.int .u8 0), .pv (.int .u8 0), .pv (.int .u8 0), .pv (.int .u8 0), .pv (.int .u8 0), .pv (.int .u8 0), .pv (.int .u8 0), .pv (.int .u8 0), .pv (.int .u8 0), .pv (.int .u8 0), .pv (.int .u8 0), .pv (.int .u8 0), .pv (.int .u8 0), .pv (.int .u8 0), .pv (.int .u8 0), .pv (.int .u8 0), .pv (.int .u8 0), .pv (.int .u8 0), .pv (.int .u8 0), .pv (.int .u8 0), .pv (.int .u8 0), .pv (.int .u8 0), .pv (.int .u8 0), .pv (.int .u8 0), .pv (.int .u8 0), .pv (.int .u8 0), .pv (.int .u8 0), .pv (.int .u8 0), .pv (.int .u8 0), .pv (.int .u8 0), .pv (.int .u8 0), .pv (.int .u8 0), .pv (.int .u8 0), .pv (.int .u8 0), .pv (.int .u8 0), .pv (.int .u8 0), .pv (.int .u8 0), .pv (.int .u8 0), .pv (.int .u8 0), .pv (.int .u8 0), .pv (.int .u8 0), .pv (.int .u8 0), .pv (.int .u8 0), .pv (.int .u8 0), .pv (.int .u8 0), .pv (.int .u8 0), .pv (.int .u8 0), .pv (.int .u8 0), .pv (.int .u8 0), .pv (.int .u8 0), .pv (.int .u8 0), .pv (.int .u8 0), .pv (.int .u8 0), .pv (.int .u8 0), .pv (.int .u8 0), .pv (.int .u8 0), .pv (.int .u8 0), .pv (.int .u8 0), .pv (.int .u8 0), .pv (.int .u8 0), .pv (.int .u8 0), .pv (.int .u8 0), .pv (.int .u8 0), .pv (.int .u8 0)] := by kernel_rfl
@[go_sem] theorem ifcT_168 : ifcT Tryd.prog 168 = true := by kernel_rfl
@[go_sem] theorem blt_168 : (Tryd.prog.built 168 []).isSome = true := by kernel_rfl
@[go_sem] theorem plT_168_0 : plT Tryd.prog 168 0 = some (0, 1) := by kernel_rfl
@[go_sem] theorem plT_168_1 : plT Tryd.prog 168 1 = some (1, 1) := by kernel_rfl
@[go_sem] theorem plT_168_2 : plT Tryd.prog 168 2 = some (2, 1) := by kernel_rfl
@[go_sem] theorem plT_168_3 : plT Tryd.prog 168 3 = some (3, 1) := by kernel_rfl
@[go_sem] theorem plT_168_4 : plT Tryd.prog 168 4 = some (4, 1) := by kernel_rfl
@[go_sem] theorem plT_168_5 : plT Tryd.prog 168 5 = some (5, 1) := by kernel_rfl
@[go_sem] theorem plT_168_6 : plT Tryd.prog 168 6 = some (6, 1) := by kernel_rfl
@[go_sem] theorem plT_168_7 : plT Tryd.prog 168 7 = some (7, 1) := by kernel_rfl
@[go_sem] theorem plT_168_8 : plT Tryd.prog 168 8 = some (8, 1) := by kernel_rfl
@[go_sem] theorem plT_168_9 : plT Tryd.prog 168 9 = some (9, 1) := by kernel_rfl
@[go_sem] theorem plT_168_10 : plT Tryd.prog 168 10 = some (10, 1) := by kernel_rfl
@[go_sem] theorem plT_168_11 : plT Tryd.prog 168 11 = some (11, 1) := by kernel_rfl
@[go_sem] theorem plT_168_12 : plT Tryd.prog 168 12 = some (12, 1) := by kernel_rfl
@[go_sem] theorem plT_168_13 : plT Tryd.prog 168 13 = some (13, 1) := by kernel_rfl
@[go_sem] theorem plT_168_14 : plT Tryd.prog 168 14 = some (14, 1) := by kernel_rfl
@[go_sem] theorem plT_168_15 : plT Tryd.prog 168 15 = some (15, 1) := by kernel_rfl
@[go_sem] theorem plT_168_16 : plT Tryd.prog 168 16 = some (16, 1) := by kernel_rfl
@[go_sem] theorem plT_168_17 : plT Tryd.prog 168 17 = some (17, 1) := by kernel_rfl
@[go_sem] theorem plT_168_18 : plT Tryd.prog 168 18 = some (18, 1) := by kernel_rfl
@[go_sem] theorem plT_168_19 : plT Tryd.prog 168 19 = some (19, 1) := by kernel_rfl
@[go_sem] theorem plT_168_20 : plT Tryd.prog 168 20 = some (20, 1) := by kernel_rfl
@[go_sem] theorem plT_168_21 : plT Tryd.prog 168 21 = some (21, 1) := by kernel_rfl
@[go_sem] theorem plT_168_22 : plT Tryd.prog 168 22 = some (22, 1) := by kernel_rfl
@[go_sem] theorem plT_168_23 : plT Tryd.prog 168 23 = some (23, 1) := by kernel_rfl
@[go_sem] theorem plT_168_24 : plT Tryd.prog 168 24 = some (24, 1) := by kernel_rfl
@[go_sem] theorem plT_168_25 : plT Tryd.prog 168 25 = some (25, 1) := by kernel_rfl
@[go_sem] theorem plT_168_26 : plT Tryd.prog 168 26 = some (26, 1) := by kernel_rfl
@[go_sem] theorem plT_168_27 : plT Tryd.prog 168 27 = some (27, 1) := by kernel_rfl
@[go_sem] theorem plT_168_28 : plT Tryd.prog 168 28 = some (28, 1) := by kernel_rfl
@[go_sem] theorem plT_168_29 : plT Tryd.prog 168 29 = some (29, 1) := by kernel_rfl
@[go_sem] theorem plT_168_30 : plT Tryd.prog 168 30 = some (30, 1) := by kernel_rfl
@[go_sem] theorem plT_168_31 : plT Tryd.prog 168 31 = some (31, 1) := by kernel_rfl
@[go_sem] theorem plT_168_32 : plT Tryd.prog 168 32 = some (32, 1) := by kernel_rfl
@[go_sem] theorem plT_168_33 : plT Tryd.prog 168 33 = some (33, 1) := by kernel_rfl
@[go_sem] theorem plT_168_34 : plT Tryd.prog 168 34 = some (34, 1) := by kernel_rfl
@[go_sem] theorem plT_168_35 : plT Tryd.prog 168 35 = some (35, 1) := by kernel_rfl
@[go_sem] theorem plT_168_36 : plT Tryd.prog 168 36 = some (36, 1) := by kernel_rfl
@[go_sem] theorem plT_168_37 : plT Tryd.prog 168 37 = some (37, 1) := by kernel_rfl
@[go_sem] theorem plT_168_38 : plT Tryd.prog 168 38 = some (38, 1) := by kernel_rfl
@[go_sem] theorem plT_168_39 : plT Tryd.prog 168 39 = some (39, 1) := by kernel_rfl
@[go_sem] theorem aggT_169 : aggT Tryd.prog 169 = some false := by kernel_rfl
@[go_sem] theorem szT_169 : szT Tryd.prog 169 = some 1 := by kernel_rfl
@[go_sem] theorem bytT_169 : bytT Tryd.prog 169 = some 8 := by kernel_rfl
@[go_sem] theorem zeroT_169 : zeroT Tryd.prog 169 = some [.pv .nilp] := by kernel_rfl
@[go_sem] theorem ptrT_169 : ptrT Tryd.prog 169 = true := by kernel_rfl
@[go_sem] theorem ifcT_169 : ifcT Tryd.prog 169 = true := by kernel_rfl
@[go_sem] theorem aggT_170 : aggT Tryd.prog 170 = some false := by kernel_rfl
@[go_sem] theorem szT_170 : szT Tryd.prog 170 = some 1 := by kernel_rfl
@[go_sem] theorem bytT_170 : bytT Tryd.prog 170 = some 0 := by kernel_rfl
@[go_sem] theorem ifcT_170 : ifcT Tryd.prog 170 = true := by kernel_rfl
@[go_sem] theorem aggT_172 : aggT Tryd.prog 172 = some true := by kernel_rfl
@[go_sem] theorem szT_172 : szT Tryd.prog 172 = some 256 := by kernel_rfl
@[go_sem] theorem bytT_172 : bytT Tryd.prog 172 = some 256 := by kernel_rfl
@[go_sem] theorem slS_172 : slS Tryd.prog 172 = none := by kernel_rfl
@[go_sem] theorem arS_172 : arS Tryd.prog 172 = some (256, 1) := by kernel_rfl
@[go_sem] theorem zeroT_172 : zeroT Tryd.prog 172 = some [.pv (.int .u8 0), .pv (.int .u8 0), .pv (.int .u8 0), .pv (.int .u8 0), .pv (.int .u8 0), .pv (.int .u8 0), .pv (.int .u8 0), .pv (.int .u8 0), .pv (.int .u8 0), .pv (.int .u8 0), .pv (.int .u8 0), .pv (.int .u8 0), .pv (.int .u8 0), .pv (.int .u8 0), .pv (.int .u8 0), .pv (.int .u8 0), .pv (.int .u8 0), .pv (.int .u8 0), .pv (.int .u8 0), .pv (.int .u8 0), .pv (.int .u8 0), .pv (.int .u8 0), .pv (.int .u8 0), .pv (.int .u8 0), .pv (.int .u8 0), .pv (.int .u8 0), .pv (.int .u8 0), .pv (.int .u8 0), .pv (.int .u8 0), .pv (.int .u8 0), .pv (.int .u8 0), .pv (.int .u8 0), .pv (.int .u8 0), .pv (.int .u8 0), .pv (.int .u8 0), .pv (.int .u8 0), .pv (.int .u8 0), .pv (.int .u8 0), .pv (.int .u8 0), .pv (.int .u8 0), .pv (.int .u8 0), .pv (.int .u8 0), .pv (.int .u8 0), .pv (.int .u8 0), .pv (.int .u8 0), .pv (.int .u8 0), .pv (.int .u8 0), .pv (.int .u8 0), .pv (.int .u8 0), .pv (.int .u8 0), .pv (.int .u8 0), .pv (.int .u8 0), .pv (.int .u8 0), .pv (.int .u8 0), .pv (.int .u8 0), .pv (.int .u8 0), .pv (.int .u8 0), .pv (.int .u8 0), .pv (.int .u8 0), .pv (.int .u8 0), .pv (.int .u8 0), .pv (.int .u8 0), .pv (.int .u8 0), .pv (.int .u8 0), .pv (.int .u8 0), .pv (.int .u8 0), .pv (.int .u8 0), .pv (.int .u8 0), .pv (.int .u8 0), .pv (.int .u8 0), .pv (.int .u8 0), .pv (.int .u8 0), .pv (.int .u8 0), .pv (.int .u8 0), .pv (.int .u8 0), .pv (.int .u8 0), .pv (.int .u8 0), .pv (.int .u8 0), .pv (.int .u8 0), .pv (.int .u8 0), .pv (.int .u8 0), .pv (.int .u8 0), .pv (.int .u8 0), .pv (.int .u8 0), .pv (.int .u8 0), .pv (.int .u8 0), .pv (.int .u8 0), .pv (.int .u8 0), .pv (.int .u8 0), .pv (.int .u8 0), .pv (.int .u8 0), .pv (.int .u8 0), .pv (.int .u8 0), .pv (.int .u8 0), .pv (.int .u8 0), .pv (.int .u8 0), .pv (.int .u8 0), .pv (.int .u8 0), .pv (.int .u8 0), .pv (.int .u8 0), .pv (.int .u8 0), .pv (.int .u8 0), .pv (.int .u8 0), .pv (.int .u8 0), .pv (.int .u8 0), .pv (.int .u8 0), .pv (.int .u8 0), .pv (.int .u8 0), .pv (.int .u8 0), .pv (.int .u8 0), .pv (.int .u8 0), .pv (.int .u8 0), .pv (.int .u8 0), .pv (.int .u8 0), .pv (.int .u8 0), .pv (.int .u8 0), .pv (.int .u8 0), .pv (.int .u8 0), .pv (.int .u8 0), .pv (.int .u8 0), .pv (.int .u8 0), .pv (.int .u8 0), .pv (.int .u8 0), .pv (.int .u8 0), .pv (.int .u8 0), .pv (.int .u8 0), .pv (.int .u8 0), .pv (.int .u8 0), .pv (.int .u8 0), .pv (.int .u8 0), .pv (.int .u8 0), .pv (.int .u8 0), .pv (.int .u8 0), .pv (.int .u8 0), .pv (.int .u8 0), .pv (.int .u8 0), .pv (.int .u8 0), .pv (.int .u8 0), .pv (.int .u8 0), .pv (.int .u8 0), .pv (.int .u8 0), .pv (.int .u8 0), .pv (.int .u8 0), .pv (.int .u8 0), .pv (.int .u8 0), .pv (.int .u8 0), .pv (.int .u8 0), .pv (.int .u8 0), .pv (.int .u8 0), .pv (.int .u8 0), .pv (.int .u8 0), .pv (.int .u8 0), .pv (.int .u8 0), .pv (.int .u8 0), .pv (.int .u8 0), .pv (.int .u8 0), .pv (.int .u8 0), .pv (.int .u8 0), .pv (.int .u8 0), .pv (.int .u8 0), .pv (.int .u8 0), .pv (.int .u8 0), .pv (.int .u8 0), .pv (.int .u8 0), .pv (.int .u8 0), .pv (.int .u8 0), .pv (.int .u8 0), .pv (.int .u8 0), .pv (.int .u8 0), .pv (.int .u8 0), .pv (.int .u8 0), .pv (.int .u8 0), .pv (.int .u8 0), .pv (.int .u8 0), .pv (.int .u8 0), .pv (.int .u8 0), .pv (.int .u8 0), .pv (.int .u8 0), .pv (.int .u8 0), .pv (.int .u8 0), .pv (.int .u8 0), .pv (.int .u8 0), .pv (.int .u8 0), .pv (.int .u8 0), .pv (.int .u8 0), .pv (.int .u8 0), .pv (.int .u8 0), .pv (.int .u8 0), .pv (.int .u8 0), .pv (.int .u8 0), .pv (.int .u8 0), .pv (.int .u8 0), .pv (.int .u8 0), .pv (.int .u8 0), .pv (.int .u8 0), .pv (.int .u8 0), .pv (.int .u8 0), .pv (.int .u8 0), .pv (.int .u8 0), .pv (.int .u8 0), .pv (.int .u8 0), .pv (.int .u8 0), .pv (.int .u8 0), .pv (.int .u8 0), .pv (.int .u8 0), .pv (.int .u8 0), .pv (.int .u8 0), .pv (.int .u8 0), .pv (.int .u8 0), .pv (.int .u8 0), .pv (.int .u8 0), .pv (.int .u8 0), .pv (.int .u8 0), .pv (.int .u8 0), .pv (.int .u8 0), .pv (.int .u8 0), .pv (.int .u8 0), .pv (.int .u8 0), .pv (.int .u8 0), .pv (.int .u8 0), .pv (.int .u8 0), .pv (.int .u8 0), .pv (.int .u8 0), .pv (.int .u8 0), .pv (.int .u8 0), .pv (.int .u8 0), .pv (.int .u8 0), .pv (.int .u8 0), .pv (.int .u8 0), .pv (.int .u8 0), .pv (.int .u8 0), .pv (.int .u8 0), .pv (.int .u8 0), .pv (.int .u8 0), .pv (.int .u8 0), .pv (.int .u8 0), .pv (.int .u8 0), .pv (.int .u8 0), .pv (.int .u8 0), .pv (.int .u8 0), .pv (.int .u8 0), .pv (.int .u8 0), .pv (.int .u8 0), .pv (.int .u8 0), .pv (.int .u8 0), .pv (.int .u8 0), .pv (.int .u8 0), .pv (.int .u8 0), .pv (.int .u8 0), .pv (.int .u8 0), .pv (.int .u8 0), .pv (.int .u8 0), .pv (.int .u8 0), .pv (.int .u8 0), .pv (.int .u8 0), .pv (.int .u8 0)] := by kernel_rfl
@[go_sem] theorem ifcT_172 : ifcT Tryd.prog 172 = true := by kernel_rfl
@[go_sem] theorem blt_172 : (Tryd.prog.built 172 []).isSome = true := by kernel_rfl
@[go_sem] theorem plT_172_0 : plT Tryd.prog 172 0 = some (0, 1) := by kernel_rfl
@[go_sem] theorem plT_172_1 : plT Tryd.prog 172 1 = some (1, 1) := by kernel_rfl
@[go_sem] theorem plT_172_2 : plT Tryd.prog 172 2 = some (2, 1) := by kernel_rfl
@[go_sem] theorem plT_172_3 : plT Tryd.prog 172 3 = some (3, 1) := by kernel_rfl
@[go_sem] theorem plT_172_4 : plT Tryd.prog 172 4 = some (4, 1) := by kernel_rfl
@[go_sem] theorem plT_172_5 : plT Tryd.prog 172 5 = some (5, 1) := by kernel_rfl
@[go_sem] theorem plT_172_6 : plT Tryd.prog 172 6 = some (6, 1) := by kernel_rfl
@[go_sem] theorem plT_172_7 : plT Tryd.prog 172 7 = some (7, 1) := by kernel_rfl
@[go_sem] theorem plT_172_8 : plT Tryd.prog 172 8 = some (8, 1) := by kernel_rfl
@[go_sem] theorem plT_172_9 : plT Tryd.prog 172 9 = some (9, 1) := by kernel_rfl
@[go_sem] theorem plT_172_10 : plT Tryd.prog 172 10 = some (10, 1) := by kernel_rfl
@[go_sem] theorem plT_172_11 : plT Tryd.prog 172 11 = some (11, 1) := by kernel_rfl
@[go_sem] theorem plT_172_12 : plT Tryd.prog 172 12 = some (12, 1) := by kernel_rfl
@[go_sem] theorem plT_172_13 : plT Tryd.prog 172 13 = some (13, 1) := by kernel_rfl
@[go_sem] theorem plT_172_14 : plT Tryd.prog 172 14 = some (14, 1) := by kernel_rfl
@[go_sem] theorem plT_172_15 : plT Tryd.prog 172 15 = some (15, 1) := by kernel_rfl
@[go_sem] theorem plT_172_16 : plT Tryd.prog 172 16 = some (16, 1) := by kernel_rfl
@[go_sem] theorem plT_172_17 : plT Tryd.prog 172 17 = some (17, 1) := by kernel_rfl
@[go_sem] theorem plT_172_18 : plT Tryd.prog 172 18 = some (18, 1) := by kernel_rfl
@[go_sem] theorem plT_172_19 : plT Tryd.prog 172 19 = some (19, 1) := by kernel_rfl
@[go_sem] theorem plT_172_20 : plT Tryd.prog 172 20 = some (20, 1) := by kernel_rfl
@[go_sem] theorem plT_172_21 : plT Tryd.prog 172 21 = some (21, 1) := by kernel_rfl
@[go_sem] theorem plT_172_22 : plT Tryd.prog 172 22 = some (22, 1) := by kernel_rfl
@[go_sem] theorem plT_172_23 : plT Tryd.prog 172 23 = some (23, 1) := by kernel_rfl
@[go_sem] theorem plT_172_24 : plT Tryd.prog 172 24 = some (24, 1) := by kernel_rfl
@[go_sem] theorem plT_172_25 : plT Tryd.prog 172 25 = some (25, 1) := by kernel_rfl
@[go_sem] theorem plT_172_26 : plT Tryd.prog 172 26 = some (26, 1) := by kernel_rfl
@[go_sem] theorem plT_172_27 : plT Tryd.prog 172 27 = some (27, 1) := by kernel_rfl
@[go_sem] theorem plT_172_28 : plT Tryd.prog 172 28 = some (28, 1) := by kernel_rfl
@[go_sem] theorem plT_172_29 : plT Tryd.prog 172 29 = some (29, 1) := by kernel_rfl
@[go_sem] theorem plT_172_30 : plT Tryd.prog 172 30 = some (30, 1) := by kernel_rfl
@[go_sem] theorem plT_172_31 : plT Tryd.prog 172 31 = some (31, 1) := by kernel_rfl
@[go_sem] theorem plT_172_32 : plT Tryd.prog 172 32 = some (32, 1) := by kernel_rfl
@[go_sem] theorem plT_172_33 : plT Tryd.prog 172 33 = some (33, 1) := by kernel_rfl
@[go_sem] theorem plT_172_34 : plT Tryd.prog 172 34 = some (34, 1) := by kernel_rfl
@[go_sem] theorem plT_172_35 : plT Tryd.prog 172 35 = some (35, 1) := by kernel_rfl
@[go_sem] theorem plT_172_36 : plT Tryd.prog 172 36 = some (36, 1) := by kernel_rfl
@[go_sem] theorem plT_172_37 : plT Tryd.prog 172 37 = some (37, 1) := by kernel_rfl
@[go_sem] theorem plT_172_38 : plT Tryd.prog 172 38 = some (38, 1) := by kernel_rfl
@[go_sem] theorem plT_172_39 : plT Tryd.prog 172 39 = some (39, 1) := by kernel_rfl
@[go_sem] theorem aggT_174 : aggT Tryd.prog 174 = some true := by kernel_rfl
@[go_sem] theorem szT_174 : szT Tryd.prog 174 = some 2 := by kernel_rfl
@[go_sem] theorem bytT_174 : bytT Tryd.prog 174 = some 2 := by kernel_rfl
@[go_sem] theorem zeroT_174 : zeroT Tryd.prog 174 = some [.pv (.int .u8 0), .pv (.int .u8 0)] := by kernel_rfl
@[go_sem] theorem ifcT_174 : ifcT Tryd.prog 174 = true := by kernel_rfl
@[go_sem] theorem blt_174 : (Tryd.prog.built 174 []).isSome = true := by kernel_rfl
@[go_sem] theorem faT_174_0 : faT Tryd.prog 174 0 = some 0 := by kernel_rfl
@[go_sem] theorem plT_174_0 : plT Tryd.prog 174 0 = some (0, 1) := by kernel_rfl
@[go_sem] theorem faT_174_1 : faT Tryd.prog 174 1 = some 1 := by kernel_rfl
@[go_sem] theorem plT_174_1 : plT Tryd.prog 174 1 = some (1, 1) := by kernel_rfl
@[go_sem] theorem aggT_175 : aggT Tryd.prog 175 = some true := by kernel_rfl
@[go_sem] theorem szT_175 : szT Tryd.prog 175 = some 32 := by kernel_rfl
@[go_sem] theorem bytT_175 : bytT Tryd.prog 175 = some 32 := by kernel_rfl
@[go_sem] theorem slS_175 : slS Tryd.prog 175 = none := by kernel_rfl
@[go_sem] theorem arS_175 : arS Tryd.prog 175 = some (16, 2) := by kernel_rfl
@[go_sem] theorem zeroT_175 : zeroT Tryd.prog 175 = some [.pv (.int .u8 0), .pv (.int .u8 0), .pv (.int .u8 0), .pv (.int .u8 0), .pv (.int .u8 0), .pv (.int .u8 0), .pv (.int .u8 0), .pv (.int .u8 0), .pv (.int .u8 0), .pv (.int .u8 0), .pv (.int .u8 0), .pv (.int .u8 0), .pv (.int .u8 0), .pv (.int .u8 0), .pv (.int .u8 0), .pv (.int .u8 0), .pv (.int .u8 0), .pv (.int .u8 0), .pv (.int .u8 0), .pv (.int .u8 0), .pv (.int .u8 0), .pv (.int .u8 0), .pv (.int .u8 0), .pv (.int .u8 0), .pv (.int .u8 0), .pv (.int .u8 0), .pv (.int .u8 0), .pv (.int .u8 0), .pv (.int .u8 0), .pv (.int .u8 0), .pv (.int .u8 0), .pv (.int .u8 0)] := by kernel_rfl
@[go_sem] theorem ifcT_175 : ifcT Tryd.prog 175 = true := by kernel_rfl
@[go_sem] theorem blt_175 : (Tryd.prog.built 175 []).isSome = true := by kernel_rfl
@[go_sem] theorem plT_175_0 : plT Tryd.prog 175 0 = some (0, 2) := by kernel_rfl
@[go_sem] theorem plT_175_1 : plT Tryd.prog 175 1 = some (2, 2) := by kernel_rfl
@[go_sem] theorem plT_175_2 : plT Tryd.prog 175 2 = some (4, 2) := by kernel_rfl
@[go_sem] theorem plT_175_3 : plT Tryd.prog 175 3 = some (6, 2) := by kernel_rfl
@[go_sem] theorem plT_175_4 : plT Tryd.prog 175 4 = some (8, 2) := by kernel_rfl
@[go_sem] theorem plT_175_5 : plT Tryd.prog 175 5 = some (10, 2) := by kernel_rfl
@[go_sem] theorem plT_175_6 : plT Tryd.prog 175 6 = some (12, 2) := by kernel_rfl
@[go_sem] theorem plT_175_7 : plT Tryd.prog 175 7 = some (14, 2) := by kernel_rfl
@[go_sem] theorem plT_175_8 : plT Tryd.prog 175 8 = some (16, 2) := by kernel_rfl
@[go_sem] theorem plT_175_9 : plT Tryd.prog 175 9 = some (18, 2) := by kernel_rfl
@[go_sem] theorem plT_175_10 : plT Tryd.prog 175 10 = some (20, 2) := by kernel_rfl
@[go_sem] theorem plT_175_11 : plT Tryd.prog 175 11 = some (22, 2) := by kernel_rfl
@[go_sem] theorem plT_175_12 : plT Tryd.prog 175 12 = some (24, 2) := by kernel_rfl
@[go_sem] theorem plT_175_13 : plT Tryd.prog 175 13 = some (26, 2) := by kernel_rfl
@[go_sem] theorem plT_175_14 : plT Tryd.prog 175 14 = some (28, 2) := by kernel_rfl
@[go_sem] theorem plT_175_15 : plT Tryd.prog 175 15 = some (30, 2) := by kernel_rfl
@[go_sem] theorem plT_175_16 : plT Tryd.prog 175 16 = some (32, 2) := by kernel_rfl
@[go_sem] theorem plT_175_17 : plT Tryd.prog 175 17 = some (34, 2) := by kernel_rfl
@[go_sem] theorem plT_175_18 : plT Tryd.prog 175 18 = some (36, 2) := by kernel_rfl
@[go_sem] theorem plT_175_19 : plT Tryd.prog 175 19 = some (38, 2) := by kernel_rfl
@[go_sem] theorem plT_175_20 : plT Tryd.prog 175 20 = some (40, 2) := by kernel_rfl
@[go_sem] theorem plT_175_21 : plT Tryd.prog 175 21 = some (42, 2) := by kernel_rfl
@[go_sem] theorem plT_175_22 : plT Tryd.prog 175 22 = some (44, 2) := by kernel_rfl
@[go_sem] theorem plT_175_23 : plT Tryd.prog 175 23 = some (46, 2) := by kernel_rfl
@[go_sem] theorem plT_175_24 : plT Tryd.prog 175 24 = some (48, 2) := by kernel_rfl
@[go_sem] theorem plT_175_25 : plT Tryd.prog 175 25 = some (50, 2) := by kernel_rfl
@[go_sem] theorem plT_175_26 : plT Tryd.prog 175 26 = some (52, 2) := by kernel_rfl
@[go_sem] theorem plT_175_27 : plT Tryd.prog 175 27 = some (54, 2) := by kernel_rfl
@[go_sem] theorem plT_175_28 : plT Tryd.prog 175 28 = some (56, 2) := by kernel_rfl
@[go_sem] theorem plT_175_29 : plT Tryd.prog 175 29 = some (58, 2) := by kernel_rfl
@[go_sem] theorem plT_175_30 : plT Tryd.prog 175 30 = some (60, 2) := by kernel_rfl
@[go_sem] theorem plT_175_31 : plT Tryd.prog 175 31 = some (62, 2) := by kernel_rfl
@[go_sem] theorem plT_175_32 : plT Tryd.prog 175 32 = some (64, 2) := by kernel_rfl
@[go_sem] theorem plT_175_33 : plT Tryd.prog 175 33 = some (66, 2) := by kernel_rfl
@[go_sem] theorem plT_175_34 : plT Tryd.prog 175 34 = some (68, 2) := by kernel_rfl
@[go_sem] theorem plT_175_35 : plT Tryd.prog 175 35 = some (70, 2) := by kernel_rfl
@[go_sem] theorem plT_175_36 : plT Tryd.prog 175 36 = some (72, 2) := by kernel_rfl
@[go_sem] theorem plT_175_37 : plT Tryd.prog 175 37 = some (74, 2) := by kernel_rfl
@[go_sem] theorem plT_175_38 : plT Tryd.prog 175 38 = some (76, 2) := by kernel_rfl
@[go_sem] theorem plT_175_39 : plT Tryd.prog 175 39 = some (78, 2) := by kernel_rfl
@[go_sem] theorem aggT_177 : aggT Tryd.prog 177 = some true := by kernel_rfl
@[go_sem] theorem szT_177 : szT Tryd.prog 177 = some 32 := by kernel_rfl
@[go_sem] theorem bytT_177 : bytT Tryd.prog 177 = some 32 := by kernel_rfl
@[go_sem] theorem slS_177 : slS Tryd.prog 177 = none := by kernel_rfl
@[go_sem] theorem arS_177 : arS Tryd.prog 177 = some (32, 1) := by kernel_rfl
@[go_sem] theorem zeroT_177 : zeroT Tryd.prog 177 = some [.pv (.int .u8 0), .pv (.int .u8 0), .pv (.int .u8 0), .pv (.int .u8 0), .pv (.int .u8 0), .pv (.int .u8 0), .pv (.int .u8 0), .pv (.int .u8 0), .pv (.int .u8 0), .pv (.int .u8 0), .pv (.int .u8 0), .pv (.int .u8 0), .pv (.int .u8 0), .pv (.int .u8 0), .pv (.int .u8 0), .pv (.int .u8 0), .pv (.int .u8 0), .pv (.int .u8 0), .pv (.int .u8 0), .pv (.int .u8 0), .pv (.int .u8 0), .pv (.int .u8 0), .pv (.int .u8 0), .pv (.int .u8 0), .pv (.int .u8 0), .pv (.int .u8 0), .pv (.int .u8 0), .pv (.int .u8 0), .pv (.int .u8 0), .pv (.int .u8 0), .pv (.int .u8 0), .pv (.int .u8 0)] := by kernel_rfl
@[go_sem] theorem ifcT_177 : ifcT Tryd.prog 177 = true := by kernel_rfl
@[go_sem] theorem blt_177 : (Tryd.prog.built 177 []).isSome = true := by kernel_rfl
@[go_sem] theorem plT_177_0 : plT Tryd.prog 177 0 = some (0, 1) := by kernel_rfl
@[go_sem] theorem plT_177_1 : plT Tryd.prog 177 1 = some (1, 1) := by kernel_rfl
@[go_sem] theorem plT_177_2 : plT Tryd.prog 177 2 = some (2, 1) := by kernel_rfl
@[go_sem] theorem plT_177_3 : plT Tryd.prog 177 3 = some (3, 1) := by kernel_rfl
@[go_sem] theorem plT_177_4 : plT Tryd.prog 177 4 = some (4, 1) := by kernel_rfl
@[go_sem] theorem plT_177_5 : plT Tryd.prog 177 5 = some (5, 1) := by kernel_rfl
@[go_sem] theorem plT_177_6 : plT Tryd.prog 177 6 = some (6, 1) := by kernel_rfl
@[go_sem] theorem plT_177_7 : plT Tryd.prog 177 7 = some (7, 1) := by kernel_rfl
@[go_sem] theorem plT_177_8 : plT Tryd.prog 177 8 = some (8, 1) := by kernel_rfl
@[go_sem] theorem plT_177_9 : plT Tryd.prog 177 9 = some (9, 1) := by kernel_rfl
@[go_sem] theorem plT_177_10 : plT Tryd.prog 177 10 = some (10, 1) := by kernel_rfl
@[go_sem] theorem plT_177_11 : plT Tryd.prog 177 11 = some (11, 1) := by kernel_rfl
@[go_sem] theorem plT_177_12 : plT Tryd.prog 177 12 = some (12, 1) := by kernel_rfl
@[go_sem] theorem plT_177_13 : plT Tryd.prog 177 13 = some (13, 1) := by kernel_rfl
@[go_sem] theorem plT_177_14 : plT Tryd.prog 177 14 = some (14, 1) := by kernel_rfl
@[go_sem] theorem plT_177_15 : plT Tryd.prog 177 15 = some (15, 1) := by kernel_rfl
@[go_sem] theorem plT_177_16 : plT Tryd.prog 177 16 = some (16, 1) := by kernel_rfl
@[go_sem] theorem plT_177_17 : plT Tryd.prog 177 17 = some (17, 1) := by kernel_rfl
@[go_sem] theorem plT_177_18 : plT Tryd.prog 177 18 = some (18, 1) := by kernel_rfl
@[go_sem] theorem plT_177_19 : plT Tryd.prog 177 19 = some (19, 1) := by kernel_rfl
@[go_sem] theorem plT_177_20 : plT Tryd.prog 177 20 = some (20, 1) := by kernel_rfl
@[go_sem] theorem plT_177_21 : plT Tryd.prog 177 21 = some (21, 1) := by kernel_rfl
@[go_sem] theorem plT_177_22 : plT Tryd.prog 177 22 = some (22, 1) := by kernel_rfl
@[go_sem] theorem plT_177_23 : plT Tryd.prog 177 23 = some (23, 1) := by kernel_rfl
@[go_sem] theorem plT_177_24 : plT Tryd.prog 177 24 = some (24, 1) := by kernel_rfl
@[go_sem] theorem plT_177_25 : plT Tryd.prog 177 25 = some (25, 1) := by kernel_rfl
@[go_sem] theorem plT_177_26 : plT Tryd.prog 177 26 = some (26, 1) := by kernel_rfl
@[go_sem] theorem plT_177_27 : plT Tryd.prog 177 27 = some (27, 1) := by kernel_rfl
@[go_sem] theorem plT_177_28 : plT Tryd.prog 177 28 = some (28, 1) := by kernel_rfl
@[go_sem] theorem plT_177_29 : plT Tryd.prog 177 29 = some (29, 1) := by kernel_rfl
@[go_sem] theorem plT_177_30 : plT Tryd.prog 177 30 = some (30, 1) := by kernel_rfl
@[go_sem] theorem plT_177_31 : plT Tryd.prog 177 31 = some (31, 1) := by kernel_rfl
@[go_sem] theorem plT_177_32 : plT Tryd.prog 177 32 = some (32, 1) := by kernel_rfl
@[go_sem] theorem plT_177_33 : plT Tryd.prog 177 33 = some (33, 1) := by kernel_rfl
@[go_sem] theorem plT_177_34 : plT Tryd.prog 177 34 = some (34, 1) := by kernel_rfl
@[go_sem] theorem plT_177_35 : plT Tryd.prog 177 35 = some (35, 1) := by kernel_rfl
@[go_sem] theorem plT_177_36 : plT Tryd.prog 177 36 = some (36, 1) := by kernel_rfl
@[go_sem] theorem plT_177_37 : plT Tryd.prog 177 37 = some (37, 1) := by kernel_rfl
@[go_sem] theorem plT_177_38 : plT Tryd.prog 177 38 = some (38, 1) := by kernel_rfl
@[go_sem] theorem plT_177_39 : plT Tryd.prog 177 39 = some (39, 1) := by kernel_rfl
@[go_sem] theorem aggT_178 : aggT Tryd.prog 178 = some true := by kernel_rfl
@[go_sem] theorem szT_178 : szT Tryd.prog 178 = some 64 := by kernel_rfl
@[go_sem] theorem bytT_178 : bytT Tryd.prog 178 = some 64 := by kernel_rfl
@[go_sem] theorem slS_178 : slS Tryd.prog 178 = none := by kernel_rfl
@[go_sem] theorem arS_178 : arS Tryd.prog 178 = some (64, 1) := by kernel_rfl
@[go_sem] theorem zeroT_178 : zeroT Tryd.prog 178 = some [.pv (.int .u8 0), .pv (.int .u8 0), .pv (.int .u8 0), .pv (.int .u8 0), .pv (.int .u8 0), .pv (.int .u8 0), .pv (.int .u8 0), .pv (.int .u8 0), .pv (.int .u8 0), .pv (.int .u8 0), .pv (.int .u8 0), .pv (.int .u8 0), .pv (.int .u8 0), .pv (.int .u8 0), .pv (.int .u8 0), .pv (.int .u8 0), .pv (.int .u8 0), .pv (.int .u8 0), .pv (.int .u8 0), .pv (.int .u8 0), .pv (.int .u8 0), .pv (.int .u8 0), .pv (.int .u8 0), .pv (.int .u8 0), .pv (.int .u8 0), .pv (.int .u8 0), .pv (.int .u8 0), .pv (.int .u8 0), .pv (.int .u8 0), .pv (.int .u8 0), .pv (.int .u8 0), .pv (.int .u8 0), .pv (.int .u8 0), .pv (.int .u8 0), .pv (.int .u8 0), .pv (.int .u8 0), .pv (.int .u8 0), .pv (.int .u8 0), .pv (.int .u8 0), .pv (.int .u8 0), .pv (.int .u8 0), .pv (.int .u8 0), .pv (.int .u8 0), .pv (.int .u8 0), .pv (.int .u8 0), .pv (.int .u8 0), .pv (.int .u8 0), .pv (.int .u8 0), .pv (.int .u8 0), .pv (.int .u8 0), .pv (.int .u8 0), .pv (.int .u8 0), .pv (.int .u8 0), .pv (.int .u8 0), .pv (.int .u8 0), .pv (.int .u8 0), .pv (.int .u8 0), .pv (.int .u8 0), .pv (.int .u8 0), .pv (.int .u8 0), .pv (.int .u8 0), .pv (.int .u8 0), .pv (.int .u8 0), .pv (.int .u8 0)] := by kernel_rfl
@[go_sem] theorem ifcT_178 : ifcT Tryd.prog 178 = true := by kernel_rfl
@[go_sem] theorem blt_178 : (Tryd.prog.built 178 []).isSome = true := by kernel_rfl
@[go_sem] theorem plT_178_0 : plT Tryd.prog 178 0 = some (0, 1) := by kernel_rfl
@[go_sem] theorem plT_178_1 : plT Tryd.prog 178 1 = some (1, 1) := by kernel_rfl
@[go_sem] theorem plT_178_2 : plT Tryd.prog 178 2 = some (2, 1) := by kernel_rfl
@[go_sem] theorem plT_178_3 : plT Tryd.prog 178 3 = some (3, 1) := by kernel_rfl
@[go_sem] theorem plT_178_4 : plT Tryd.prog 178 4 = some (4, 1) := by kernel_rfl
@[go_sem] theorem plT_178_5 : plT Tryd.prog 178 5 = some (5, 1) := by kernel_rfl
@[go_sem] theorem plT_178_6 : plT Tryd.prog 178 6 = some (6, 1) := by kernel_rfl
@[go_sem] theorem plT_178_7 : plT Tryd.prog 178 7 = some (7, 1) := by kernel_rfl
@[go_sem] theorem plT_178_8 : plT Tryd.prog 178 8 = some (8, 1) := by kernel_rfl
@[go_sem] theorem plT_178_9 : plT Tryd.prog 178 9 = some (9, 1) := by kernel_rfl
@[go_sem] theorem plT_178_10 : plT Tryd.prog 178 10 = some (10, 1) := by kernel_rfl
@[go_sem] theorem plT_178_11 : plT Tryd.prog 178 11 = some (11, 1) := by kernel_rfl
@[go_sem] theorem plT_178_12 : plT Tryd.prog 178 12 = some (12, 1) := by kernel_rfl
@[go_sem] theorem plT_178_13 : plT Tryd.prog 178 13 = some (13, 1) := by kernel_rfl
@[go_sem] theorem plT_178_14 : plT Tryd.prog 178 14 = some (14, 1) := by kernel_rfl
@[go_sem] theorem plT_178_15 : plT Tryd.prog 178 15 = some (15, 1) := by kernel_rfl
@[go_sem] theorem plT_178_16 : plT Tryd.prog 178 16 = some (16, 1) := by kernel_rfl
@[go_sem] theorem plT_178_17 : plT Tryd.prog 178 17 = some (17, 1) := by kernel_rfl
@[go_sem] theorem plT_178_18 : plT Tryd.prog 178 18 = some (18, 1) := by kernel_rfl
@[go_sem] theorem plT_178_19 : plT Tryd.prog 178 19 = some (19, 1) := by kernel_rfl
@[go_sem] theorem plT_178_20 : plT Tryd.prog 178 20 = some (20, 1) := by kernel_rfl
@[go_sem] theorem plT_178_21 : plT Tryd.prog 178 21 = some (21, 1) := by kernel_rfl
@[go_sem] theorem plT_178_22 : plT Tryd.prog 178 22 = some (22, 1) := by kernel_rfl
@[go_sem] theorem plT_178_23 : plT Tryd.prog 178 23 = some (23, 1) := by kernel_rfl
@[go_sem] theorem plT_178_24 : plT Tryd.prog 178 24 = some (24, 1) := by kernel_rfl
@[go_sem] theorem plT_178_25 : plT Tryd.prog 178 25 = some (25, 1) := by kernel_rfl
@[go_sem] theorem plT_178_26 : plT Tryd.prog 178 26 = some (26, 1) := by kernel_rfl
@[go_sem] theorem plT_178_27 : plT Tryd.prog 178 27 = some (27, 1) := by kernel_rfl
@[go_sem] theorem plT_178_28 : plT Tryd.prog 178 28 = some (28, 1) := by kernel_rfl
@[go_sem] theorem plT_178_29 : plT Tryd.prog 178 29 = some (29, 1) := by kernel_rfl
@[go_sem] theorem plT_178_30 : plT Tryd.prog 178 30 = some (30, 1) := by kernel_rfl
@[go_sem] theorem plT_178_31 : plT Tryd.prog 178 31 = some (31, 1) := by kernel_rfl
@[go_sem] theorem plT_178_32 : plT Tryd.prog 178 32 = some (32, 1) := by kernel_rfl
@[go_sem] theorem plT_178_33 : plT Tryd.prog 178 33 = some (33, 1) := by kernel_rfl
@[go_sem] theorem plT_178_34 : plT Tryd.prog 178 34 = some (34, 1) := by kernel_rfl
@[go_sem] theorem plT_178_35 : plT Tryd.prog 178 35 = some (35, 1) := by kernel_rfl
@[go_sem] theorem plT_178_36 : plT Tryd.prog 178 36 = some (36, 1) := by kernel_rfl
@[go_sem] theorem plT_178_37 : plT Tryd.prog 178 37 = some (37, 1) := by kernel_rfl
@[go_sem] theorem plT_178_38 : plT Tryd.prog 178 38 = some (38, 1) := by kernel_rfl
@[go_sem] theorem plT_178_39 : plT Tryd.prog 178 39 = some (39, 1) := by kernel_rfl
@[go_sem] theorem aggT_187 : aggT Tryd.prog 187 = some false := by kernel_rfl
@[go_sem] theorem szT_187 : szT Tryd.prog 187 = some 1 := by kernel_rfl
@[go_sem] theorem bytT_187 : bytT Tryd.prog 187 = some 1 := by kernel_rfl
@[go_sem] theorem zeroT_187 : zeroT Tryd.prog 187 = some [.pv (.int .u8 0)] := by kernel_rfl
@[go_sem] theorem intT_187 : intT Tryd.prog 187 = some .u8 := by kernel_rfl
@[go_sem] theorem ifcT_187 : ifcT Tryd.prog 187 = true := by kernel_rfl
end Go.Proofs.YtahamnipffckhaaDoor
