import Derived.Test.YtahamnipffckhaaDoorAm23
import Derived.Test.YtahamnipffckhaaDoorTy
set_option linter.unusedVariables false
set_option linter.unusedSimpArgs false
namespace Go.Proofs.YtahamnipffckhaaDoor
open Go Go.RowKit
theorem mixed : Tryd.prog.follows .mixedOrders = true := by kernel_rfl
def E67 (t : Tm) (most n : Int) (i : Nat) : AEnv :=
  ((((E0.put 1 (.pv (.int .i64 most))).put 5 (.pv (.int .i64 n))).put 9 (.pv (.sl (t.a.map Tm.cells)))).put 10 (.pv (.int .i64 (t.a.length : Int)))).put 11 (.pv (.int .i64 (i : Int)))
theorem deep_pure : ∀ (k : Nat) (t : Tm) (most : Int), t.depth ≤ k → 1 ≤ most → most ≤ 1000 → Pure Tryd.prog 67 [t.pv, .int .i64 most] (.int .i64 (min (t.depth : Int) most))
  | 0, t, most, hk, _, _ => by rw [Tm.depth_eq] at hk; omega
  | k + 1, t, most, hk, h1, h2 => by
    refine Pure.fit (ent_of Tryd.func67 rfl (by rfl)) fun hfit => ?_
    simp only [fitL, fitP, List.length_map] at hfit
    have hlen : t.a.length ≤ 140737488355328 := hfit.1.2.2.2.1.1
    refine pure_of Tryd.func67 rfl (by rfl) Tryd.ntmps67 Tryd.results67 (by simp) ?_
    simp only [go_sem, List.range', reduceIte, Nat.reduceLT, Nat.reduceAdd, Nat.reduceSub, Nat.reduceMul, Nat.reduceEqDiff, reduceCtorEq, Nat.reduceLeDiff, Int.reduceLT, Int.reduceLE, Int.reduceEq, Int.reduceAdd, Int.reduceToNat, Int.reduceNeg, Int.reduceNegSucc, ↓vz_seq]
    refine vz_loop (fun i => t.a.length - i) (fun i e h => ∃ n : Int, n = min ((Tm.depthL (t.a.take i) : Nat) : Int) (most - 1) ∧ i ≤ t.a.length ∧ e = E67 t most n i ∧ h = []) 0 ?_ ?_
    · refine ⟨E67 t most 0 0, [], Wk.perm [] (by simp) rfl trivial ?_, 0, by simp [Tm.depthL]; omega, Nat.zero_le _, rfl, rfl⟩
      unfold E67
      repeat (first | exact okE_E0 | refine okE_put (by first | trivial | (simp [AV.lt, AV.ltL]; done)) (by first | (simp only [go_sem, List.range', reduceIte, Nat.reduceLT, Nat.reduceAdd, Nat.reduceSub, Nat.reduceMul, Nat.reduceEqDiff, reduceCtorEq, Nat.reduceLeDiff, Int.reduceLT, Int.reduceLE, Int.reduceEq, Int.reduceAdd, Int.reduceToNat, Int.reduceNeg, Int.reduceNegSucc, ↓vz_seq]; done) | (simp only [go_sem, List.range', reduceIte, Nat.reduceLT, Nat.reduceAdd, Nat.reduceSub, Nat.reduceMul, Nat.reduceEqDiff, reduceCtorEq, Nat.reduceLeDiff, Int.reduceLT, Int.reduceLE, Int.reduceEq, Int.reduceAdd, Int.reduceToNat, Int.reduceNeg, Int.reduceNegSucc, ↓vz_seq]; rfl)) ?_)
    · rintro i _ _ ⟨n, hn, hi, rfl, rfl⟩
      have hw : IntKind.wrap .i64 (most - 1) = most - 1 := wrap_i64 (by omega)
      have hd : t.depth = Tm.depthL t.a + 1 := Tm.depth_eq t
      have hsp : Tm.depthL t.a = max (Tm.depthL (t.a.take i)) (Tm.depthL (t.a.drop i)) := by rw [← Tm.depthL_app, List.take_append_drop]
      simp only [go_sem, List.range', reduceIte, Nat.reduceLT, Nat.reduceAdd, Nat.reduceSub, Nat.reduceMul, Nat.reduceEqDiff, reduceCtorEq, Nat.reduceLeDiff, Int.reduceLT, Int.reduceLE, Int.reduceEq, Int.reduceAdd, Int.reduceToNat, Int.reduceNeg, Int.reduceNegSucc, ↓vz_seq, E67]
      refine brB_dec (fun hlt => ?_) (fun hge => ?_)
      · have hlt' : i < t.a.length := by omega
        have hx : t.a[i]? = some t.a[i] := List.getElem?_eq_getElem hlt'
        simp only [go_sem, List.range', reduceIte, Nat.reduceLT, Nat.reduceAdd, Nat.reduceSub, Nat.reduceMul, Nat.reduceEqDiff, reduceCtorEq, Nat.reduceLeDiff, Int.reduceLT, Int.reduceLE, Int.reduceEq, Int.reduceAdd, Int.reduceToNat, Int.reduceNeg, Int.reduceNegSucc, ↓vz_seq, hx, hlt, Int.natCast_nonneg, Tm.cells_eq, hw]
        refine brB_dec (fun heq => ?_) (fun hne => ?_)
        · simp only [go_sem, List.range', reduceIte, Nat.reduceLT, Nat.reduceAdd, Nat.reduceSub, Nat.reduceMul, Nat.reduceEqDiff, reduceCtorEq, Nat.reduceLeDiff, Int.reduceLT, Int.reduceLE, Int.reduceEq, Int.reduceAdd, Int.reduceToNat, Int.reduceNeg, Int.reduceNegSucc, ↓vz_seq]
          rw [wrap_i64 (by omega)]
          omega
        · simp only [go_sem, List.range', reduceIte, Nat.reduceLT, Nat.reduceAdd, Nat.reduceSub, Nat.reduceMul, Nat.reduceEqDiff, reduceCtorEq, Nat.reduceLeDiff, Int.reduceLT, Int.reduceLE, Int.reduceEq, Int.reduceAdd, Int.reduceToNat, Int.reduceNeg, Int.reduceNegSucc, ↓vz_seq, hw]
          have hxm : t.a[i] ∈ t.a := List.getElem_mem hlt'
          have hxd := Tm.depth_lt hxm
          refine Pure.call (deep_pure k t.a[i] (most - 1) (by omega) (by omega) (by omega)) (by first | (simp only [go_sem, List.range', reduceIte, Nat.reduceLT, Nat.reduceAdd, Nat.reduceSub, Nat.reduceMul, Nat.reduceEqDiff, reduceCtorEq, Nat.reduceLeDiff, Int.reduceLT, Int.reduceLE, Int.reduceEq, Int.reduceAdd, Int.reduceToNat, Int.reduceNeg, Int.reduceNegSucc, ↓vz_seq]; done) | (simp only [go_sem, List.range', reduceIte, Nat.reduceLT, Nat.reduceAdd, Nat.reduceSub, Nat.reduceMul, Nat.reduceEqDiff, reduceCtorEq, Nat.reduceLeDiff, Int.reduceLT, Int.reduceLE, Int.reduceEq, Int.reduceAdd, Int.reduceToNat, Int.reduceNeg, Int.reduceNegSucc, ↓vz_seq]; rfl)) ?_
          have hmx : (if min (t.a[i].depth : Int) (most - 1) > n then min (t.a[i].depth : Int) (most - 1) else n) = min ((Tm.depthL (t.a.take (i + 1)) : Nat) : Int) (most - 1) := by
            rw [List.take_succ_eq_append_getElem hlt', Tm.depthL_app]
            simp only [Tm.depthL]
            split <;> omega
          simp only [go_sem, List.range', reduceIte, Nat.reduceLT, Nat.reduceAdd, Nat.reduceSub, Nat.reduceMul, Nat.reduceEqDiff, reduceCtorEq, Nat.reduceLeDiff, Int.reduceLT, Int.reduceLE, Int.reduceEq, Int.reduceAdd, Int.reduceToNat, Int.reduceNeg, Int.reduceNegSucc, ↓vz_seq]
          rw [wrap_i64 (by omega)]
          refine ⟨i + 1, by omega, E67 t most _ (i + 1), [], Wk.perm [] (by simp) rfl trivial ?_, _, hmx, hlt', rfl, rfl⟩
          unfold E67
          repeat (first | exact okE_E0 | refine okE_put (by first | trivial | (simp [AV.lt, AV.ltL]; done)) (by first | (simp only [go_sem, List.range', reduceIte, Nat.reduceLT, Nat.reduceAdd, Nat.reduceSub, Nat.reduceMul, Nat.reduceEqDiff, reduceCtorEq, Nat.reduceLeDiff, Int.reduceLT, Int.reduceLE, Int.reduceEq, Int.reduceAdd, Int.reduceToNat, Int.reduceNeg, Int.reduceNegSucc, ↓vz_seq]; done) | (simp only [go_sem, List.range', reduceIte, Nat.reduceLT, Nat.reduceAdd, Nat.reduceSub, Nat.reduceMul, Nat.reduceEqDiff, reduceCtorEq, Nat.reduceLeDiff, Int.reduceLT, Int.reduceLE, Int.reduceEq, Int.reduceAdd, Int.reduceToNat, Int.reduceNeg, Int.reduceNegSucc, ↓vz_seq]; rfl)) ?_)
      · simp only [go_sem, List.range', reduceIte, Nat.reduceLT, Nat.reduceAdd, Nat.reduceSub, Nat.reduceMul, Nat.reduceEqDiff, reduceCtorEq, Nat.reduceLeDiff, Int.reduceLT, Int.reduceLE, Int.reduceEq, Int.reduceAdd, Int.reduceToNat, Int.reduceNeg, Int.reduceNegSucc, ↓vz_seq]
        have : t.a.drop i = [] := List.drop_of_length_le (by omega)
        rw [this] at hsp
        simp only [Tm.depthL] at hsp
        rw [wrap_i64 (by omega)]
        omega
end Go.Proofs.YtahamnipffckhaaDoor
