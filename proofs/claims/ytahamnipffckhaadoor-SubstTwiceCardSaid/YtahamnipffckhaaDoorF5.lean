import Derived.Test.YtahamnipffckhaaDoorF4
set_option linter.unusedVariables false
set_option linter.unusedSimpArgs false
namespace Go.Proofs.YtahamnipffckhaaDoor
open Go Go.RowKit
theorem two_pure (s o : Int) : Pure Tryd.prog 75 [.int .i64 s, .int .i64 o] (.agg [.int .i64 s, .bool false, .bool false, .sl [[.int .i64 o], [.int .i64 o]], .bool false]) := by
  refine pure_of Tryd.func75 rfl (by rfl) Tryd.ntmps75 Tryd.results75 (by simp) ?_
  simp only [go_sem, List.range', reduceIte, Nat.reduceLT, Nat.reduceAdd, Nat.reduceSub, Nat.reduceMul, Nat.reduceEqDiff, reduceCtorEq, Nat.reduceLeDiff, Int.reduceLT, Int.reduceLE, Int.reduceEq, Int.reduceAdd, Int.reduceToNat, Int.reduceNeg, Int.reduceNegSucc, ↓vz_seq]
structure Shp where
  sort : Int
  name : Bool
  number : Bool
  a : List Int
  many : Bool
def Shp.cells (s : Shp) : List PV := [.int .i64 s.sort, .bool s.name, .bool s.number, .sl (s.a.map fun x => [.int .i64 x]), .bool s.many]
def shapeL : List Shp :=
  [⟨0, false, false, [], false⟩, ⟨1, false, true, [], false⟩, ⟨1, true, false, [], false⟩, ⟨1, false, false, [2], false⟩, ⟨1, false, false, [1, 1], false⟩, ⟨1, false, false, [1, 1], false⟩, ⟨1, false, true, [1], false⟩,
   ⟨2, true, false, [], false⟩, ⟨2, false, false, [], false⟩, ⟨2, false, false, [], false⟩, ⟨2, false, false, [3], false⟩, ⟨2, false, false, [2, 2], false⟩, ⟨2, false, false, [2, 2], false⟩, ⟨2, false, false, [2, 2], false⟩,
   ⟨3, true, false, [], false⟩, ⟨4, true, false, [], false⟩, ⟨4, false, false, [], false⟩, ⟨4, false, false, [], false⟩, ⟨4, false, false, [4], false⟩, ⟨4, false, false, [4], true⟩, ⟨4, false, false, [4], true⟩,
   ⟨4, false, false, [4, 4], false⟩, ⟨4, false, false, [1, 1], false⟩, ⟨4, false, false, [1, 1], false⟩, ⟨4, false, false, [1, 1], false⟩, ⟨4, false, false, [3, 2], false⟩, ⟨4, false, false, [2, 2], false⟩, ⟨4, false, false, [2, 2], false⟩, ⟨4, false, false, [3, 3], false⟩]
def shCells : List PV := shapeL.flatMap Shp.cells
set_option maxHeartbeats 4000000
set_option maxRecDepth 100000
theorem shapes_pure : Pure Tryd.prog 56 [] (.agg shCells) := by
  refine pure_of Tryd.func56 rfl (by rfl) Tryd.ntmps56 Tryd.results56 (by simp) ?_
  simp only [go_sem, List.range', reduceIte, Nat.reduceLT, Nat.reduceAdd, Nat.reduceSub, Nat.reduceMul, Nat.reduceEqDiff, reduceCtorEq, Nat.reduceLeDiff, Int.reduceLT, Int.reduceLE, Int.reduceEq, Int.reduceAdd, Int.reduceToNat, Int.reduceNeg, Int.reduceNegSucc, ↓vz_seq]
  iterate 12
    refine Pure.call (two_pure _ _) (by first | (simp only [go_sem, List.range', reduceIte, Nat.reduceLT, Nat.reduceAdd, Nat.reduceSub, Nat.reduceMul, Nat.reduceEqDiff, reduceCtorEq, Nat.reduceLeDiff, Int.reduceLT, Int.reduceLE, Int.reduceEq, Int.reduceAdd, Int.reduceToNat, Int.reduceNeg, Int.reduceNegSucc, ↓vz_seq]; done) | (simp only [go_sem, List.range', reduceIte, Nat.reduceLT, Nat.reduceAdd, Nat.reduceSub, Nat.reduceMul, Nat.reduceEqDiff, reduceCtorEq, Nat.reduceLeDiff, Int.reduceLT, Int.reduceLE, Int.reduceEq, Int.reduceAdd, Int.reduceToNat, Int.reduceNeg, Int.reduceNegSucc, ↓vz_seq]; rfl)) ?_
    simp only [go_sem, List.range', reduceIte, Nat.reduceLT, Nat.reduceAdd, Nat.reduceSub, Nat.reduceMul, Nat.reduceEqDiff, reduceCtorEq, Nat.reduceLeDiff, Int.reduceLT, Int.reduceLE, Int.reduceEq, Int.reduceAdd, Int.reduceToNat, Int.reduceNeg, Int.reduceNegSucc, ↓vz_seq]
  rfl
end Go.Proofs.YtahamnipffckhaaDoor
