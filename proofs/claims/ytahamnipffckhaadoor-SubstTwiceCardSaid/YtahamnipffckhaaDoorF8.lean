import Derived.Test.YtahamnipffckhaaDoorF7
set_option linter.unusedVariables false
set_option linter.unusedSimpArgs false
namespace Go.Proofs.YtahamnipffckhaaDoor
open Go Go.RowKit
/-! term.Size. -/
mutual
def Tm.size : Tm → Nat
  | .mk _ _ _ a => Tm.sizeL a + 1
def Tm.sizeL : List Tm → Nat
  | [] => 0
  | x :: r => x.size + Tm.sizeL r
end
theorem Tm.size_eq (t : Tm) : t.size = Tm.sizeL t.a + 1 := by cases t; simp only [Tm.size, Tm.a]
mutual
def cntM : Tm → Int → Int
  | .mk _ _ _ a, n => if n + 1 > 2000 then n + 1 else cntL a (n + 1)
def cntL : List Tm → Int → Int
  | [], n => n
  | x :: r, n => if n ≤ 2000 then cntL r (cntM x n) else cntL r n
end
theorem cntM_eq (t : Tm) (n : Int) : cntM t n = if n + 1 > 2000 then n + 1 else cntL t.a (n + 1) := by cases t; simp only [cntM, Tm.a]
mutual
theorem cntM_val : ∀ (t : Tm) (n : Int), n ≤ 2000 → cntM t n = min (n + t.size) 2001
  | .mk _ _ _ a, n, h => by
    simp only [cntM, Tm.size]
    split
    · omega
    · rw [cntL_val a (n + 1) (by omega)]; omega
theorem cntL_val : ∀ (a : List Tm) (n : Int), n ≤ 2001 → cntL a n = min (n + Tm.sizeL a) 2001
  | [], n, h => by simp only [cntL, Tm.sizeL]; omega
  | x :: r, n, h => by
    simp only [cntL, Tm.sizeL]
    split
    · rw [cntM_val x n (by omega), cntL_val r _ (by omega)]; omega
    · rw [cntL_val r n (by omega)]; omega
end
def E54 (t : Tm) (i : Nat) : AEnv :=
  ((((E0.put 1 (.ptr 0 0)).put 2 (.ptr 1 0)).put 11 (.pv (.sl (t.a.map Tm.cells)))).put 12 (.pv (.int .i64 (t.a.length : Int)))).put 13 (.pv (.int .i64 (i : Int)))
theorem count_ref : ∀ (k : Nat) (t : Tm) (n : Int), t.depth ≤ k → 0 ≤ n → n ≤ 2000 →
    RefK Tryd.prog 54 [.pv t.pv, .ptr 0 0, .ptr 1 0] [.box [.pv (.int .i64 n)], .box [.fn 54 [.ptr 0 0, .ptr 1 0]]]
      (fun r hs => r = .ret (.tup []) ∧ hs = [.box [.pv (.int .i64 (cntM t n))], .box [.fn 54 [.ptr 0 0, .ptr 1 0]]])
  | 0, t, n, hk, _, _ => by rw [Tm.depth_eq] at hk; omega
  | k + 1, t, n, hk, s1, s2 => by
    refine RefK.fit (ent_of Tryd.func54 rfl (by rfl)) fun hfit => ?_
    simp only [fitAL, fitA, fitL, fitP, List.length_map] at hfit
    have hlen : t.a.length ≤ 140737488355328 := hfit.1.2.2.2.1.1
    refine refK_of Tryd.func54 rfl (by rfl) Tryd.ntmps54 Tryd.results54 (by simp) rfl ?_
    have hc := cntM_eq t n
    generalize cntM t n = res at hc ⊢
    simp only [go_sem, List.range', reduceIte, Nat.reduceLT, Nat.reduceAdd, Nat.reduceSub, Nat.reduceMul, Nat.reduceEqDiff, reduceCtorEq, Nat.reduceLeDiff, Int.reduceLT, Int.reduceLE, Int.reduceEq, Int.reduceAdd, Int.reduceToNat, Int.reduceNeg, Int.reduceNegSucc, ↓vz_seq]
    rw [wrap_i64 (by omega)]
    refine brB_dec (fun h1 => ?_) (fun h1 => ?_)
    · rw [if_pos (by omega)] at hc; simp only [go_sem, List.range', reduceIte, Nat.reduceLT, Nat.reduceAdd, Nat.reduceSub, Nat.reduceMul, Nat.reduceEqDiff, reduceCtorEq, Nat.reduceLeDiff, Int.reduceLT, Int.reduceLE, Int.reduceEq, Int.reduceAdd, Int.reduceToNat, Int.reduceNeg, Int.reduceNegSucc, ↓vz_seq, h1, hc]
    rw [if_neg (by omega)] at hc
    simp only [go_sem, List.range', reduceIte, Nat.reduceLT, Nat.reduceAdd, Nat.reduceSub, Nat.reduceMul, Nat.reduceEqDiff, reduceCtorEq, Nat.reduceLeDiff, Int.reduceLT, Int.reduceLE, Int.reduceEq, Int.reduceAdd, Int.reduceToNat, Int.reduceNeg, Int.reduceNegSucc, ↓vz_seq]
    refine vz_loop (fun i => t.a.length - i) (fun i e h => ∃ m : Int, res = cntL (t.a.drop i) m ∧ 0 ≤ m ∧ m ≤ 2001 ∧ i ≤ t.a.length ∧ e = E54 t i ∧ h = [.box [.pv (.int .i64 m)], .box [.fn 54 [.ptr 0 0, .ptr 1 0]]]) 0 ?_ ?_
    · refine ⟨E54 t 0, _, Wk.perm [0, 1] (by simp) rfl (by simp only [go_sem, List.range', reduceIte, Nat.reduceLT, Nat.reduceAdd, Nat.reduceSub, Nat.reduceMul, Nat.reduceEqDiff, reduceCtorEq, Nat.reduceLeDiff, Int.reduceLT, Int.reduceLE, Int.reduceEq, Int.reduceAdd, Int.reduceToNat, Int.reduceNeg, Int.reduceNegSucc, ↓vz_seq, okH, AObj.lt, AV.lt, AV.ltL]) ?_, n + 1, by simpa using hc, by omega, by omega, Nat.zero_le _, rfl, rfl⟩
      unfold E54
      repeat (first | exact okE_E0 | refine okE_put (by first | trivial | (simp [AV.lt, AV.ltL]; done)) (by first | (simp only [go_sem, List.range', reduceIte, Nat.reduceLT, Nat.reduceAdd, Nat.reduceSub, Nat.reduceMul, Nat.reduceEqDiff, reduceCtorEq, Nat.reduceLeDiff, Int.reduceLT, Int.reduceLE, Int.reduceEq, Int.reduceAdd, Int.reduceToNat, Int.reduceNeg, Int.reduceNegSucc, ↓vz_seq]; done) | (simp only [go_sem, List.range', reduceIte, Nat.reduceLT, Nat.reduceAdd, Nat.reduceSub, Nat.reduceMul, Nat.reduceEqDiff, reduceCtorEq, Nat.reduceLeDiff, Int.reduceLT, Int.reduceLE, Int.reduceEq, Int.reduceAdd, Int.reduceToNat, Int.reduceNeg, Int.reduceNegSucc, ↓vz_seq]; rfl)) ?_)
    · rintro i _ _ ⟨m, he, m1, m2, hi, rfl, rfl⟩
      simp only [go_sem, List.range', reduceIte, Nat.reduceLT, Nat.reduceAdd, Nat.reduceSub, Nat.reduceMul, Nat.reduceEqDiff, reduceCtorEq, Nat.reduceLeDiff, Int.reduceLT, Int.reduceLE, Int.reduceEq, Int.reduceAdd, Int.reduceToNat, Int.reduceNeg, Int.reduceNegSucc, ↓vz_seq, E54]
      refine brB_dec (fun hlt => ?_) (fun hge => ?_)
      · have hlt' : i < t.a.length := by omega
        have hx : t.a[i]? = some t.a[i] := List.getElem?_eq_getElem hlt'
        have hxd := Tm.depth_lt (List.getElem_mem hlt')
        rw [List.drop_eq_getElem_cons hlt', cntL] at he
        simp only [go_sem, List.range', reduceIte, Nat.reduceLT, Nat.reduceAdd, Nat.reduceSub, Nat.reduceMul, Nat.reduceEqDiff, reduceCtorEq, Nat.reduceLeDiff, Int.reduceLT, Int.reduceLE, Int.reduceEq, Int.reduceAdd, Int.reduceToNat, Int.reduceNeg, Int.reduceNegSucc, ↓vz_seq, hx, hlt, Int.natCast_nonneg, Tm.cells_eq]
        refine brB_dec (fun h2 => ?_) (fun h2 => ?_)
        · rw [if_pos h2] at he
          simp only [go_sem, List.range', reduceIte, Nat.reduceLT, Nat.reduceAdd, Nat.reduceSub, Nat.reduceMul, Nat.reduceEqDiff, reduceCtorEq, Nat.reduceLeDiff, Int.reduceLT, Int.reduceLE, Int.reduceEq, Int.reduceAdd, Int.reduceToNat, Int.reduceNeg, Int.reduceNegSucc, ↓vz_seq]
          refine RefK.callH (count_ref k t.a[i] m (by omega) m1 h2) [0, 1] (by simp) (by simp only [go_sem, List.range', reduceIte, Nat.reduceLT, Nat.reduceAdd, Nat.reduceSub, Nat.reduceMul, Nat.reduceEqDiff, reduceCtorEq, Nat.reduceLeDiff, Int.reduceLT, Int.reduceLE, Int.reduceEq, Int.reduceAdd, Int.reduceToNat, Int.reduceNeg, Int.reduceNegSucc, ↓vz_seq, okH, AObj.lt, AV.lt, AV.ltL]) (by simp [CR.lt, oltL, AObj.lt, AV.lt, AV.ltL]) (by first | (simp only [go_sem, List.range', reduceIte, Nat.reduceLT, Nat.reduceAdd, Nat.reduceSub, Nat.reduceMul, Nat.reduceEqDiff, reduceCtorEq, Nat.reduceLeDiff, Int.reduceLT, Int.reduceLE, Int.reduceEq, Int.reduceAdd, Int.reduceToNat, Int.reduceNeg, Int.reduceNegSucc, ↓vz_seq]; done) | (simp only [go_sem, List.range', reduceIte, Nat.reduceLT, Nat.reduceAdd, Nat.reduceSub, Nat.reduceMul, Nat.reduceEqDiff, reduceCtorEq, Nat.reduceLeDiff, Int.reduceLT, Int.reduceLE, Int.reduceEq, Int.reduceAdd, Int.reduceToNat, Int.reduceNeg, Int.reduceNegSucc, ↓vz_seq]; rfl)) ?_
          rintro r hs ⟨rfl, rfl⟩
          refine ⟨(by simp [CR.lt, oltL, AObj.lt, AV.lt, AV.ltL]), (by simp [CR.lt, oltL, AObj.lt, AV.lt, AV.ltL]), ?_⟩
          have hb := cntM_val t.a[i] m h2
          simp only [go_sem, List.range', reduceIte, Nat.reduceLT, Nat.reduceAdd, Nat.reduceSub, Nat.reduceMul, Nat.reduceEqDiff, reduceCtorEq, Nat.reduceLeDiff, Int.reduceLT, Int.reduceLE, Int.reduceEq, Int.reduceAdd, Int.reduceToNat, Int.reduceNeg, Int.reduceNegSucc, ↓vz_seq]
          rw [wrap_i64 (by omega)]
          refine ⟨i + 1, by omega, E54 t (i + 1), _, Wk.perm [0, 1] (by simp) rfl (by simp only [go_sem, List.range', reduceIte, Nat.reduceLT, Nat.reduceAdd, Nat.reduceSub, Nat.reduceMul, Nat.reduceEqDiff, reduceCtorEq, Nat.reduceLeDiff, Int.reduceLT, Int.reduceLE, Int.reduceEq, Int.reduceAdd, Int.reduceToNat, Int.reduceNeg, Int.reduceNegSucc, ↓vz_seq, okH, AObj.lt, AV.lt, AV.ltL]) ?_, cntM t.a[i] m, he, by omega, by omega, hlt', rfl, rfl⟩
          unfold E54
          repeat (first | exact okE_E0 | refine okE_put (by first | trivial | (simp [AV.lt, AV.ltL]; done)) (by first | (simp only [go_sem, List.range', reduceIte, Nat.reduceLT, Nat.reduceAdd, Nat.reduceSub, Nat.reduceMul, Nat.reduceEqDiff, reduceCtorEq, Nat.reduceLeDiff, Int.reduceLT, Int.reduceLE, Int.reduceEq, Int.reduceAdd, Int.reduceToNat, Int.reduceNeg, Int.reduceNegSucc, ↓vz_seq]; done) | (simp only [go_sem, List.range', reduceIte, Nat.reduceLT, Nat.reduceAdd, Nat.reduceSub, Nat.reduceMul, Nat.reduceEqDiff, reduceCtorEq, Nat.reduceLeDiff, Int.reduceLT, Int.reduceLE, Int.reduceEq, Int.reduceAdd, Int.reduceToNat, Int.reduceNeg, Int.reduceNegSucc, ↓vz_seq]; rfl)) ?_)
        · rw [if_neg h2] at he
          simp only [go_sem, List.range', reduceIte, Nat.reduceLT, Nat.reduceAdd, Nat.reduceSub, Nat.reduceMul, Nat.reduceEqDiff, reduceCtorEq, Nat.reduceLeDiff, Int.reduceLT, Int.reduceLE, Int.reduceEq, Int.reduceAdd, Int.reduceToNat, Int.reduceNeg, Int.reduceNegSucc, ↓vz_seq]
          rw [wrap_i64 (by omega)]
          refine ⟨i + 1, by omega, E54 t (i + 1), _, Wk.perm [0, 1] (by simp) rfl (by simp only [go_sem, List.range', reduceIte, Nat.reduceLT, Nat.reduceAdd, Nat.reduceSub, Nat.reduceMul, Nat.reduceEqDiff, reduceCtorEq, Nat.reduceLeDiff, Int.reduceLT, Int.reduceLE, Int.reduceEq, Int.reduceAdd, Int.reduceToNat, Int.reduceNeg, Int.reduceNegSucc, ↓vz_seq, okH, AObj.lt, AV.lt, AV.ltL]) ?_, m, he, by omega, by omega, hlt', rfl, rfl⟩
          unfold E54
          repeat (first | exact okE_E0 | refine okE_put (by first | trivial | (simp [AV.lt, AV.ltL]; done)) (by first | (simp only [go_sem, List.range', reduceIte, Nat.reduceLT, Nat.reduceAdd, Nat.reduceSub, Nat.reduceMul, Nat.reduceEqDiff, reduceCtorEq, Nat.reduceLeDiff, Int.reduceLT, Int.reduceLE, Int.reduceEq, Int.reduceAdd, Int.reduceToNat, Int.reduceNeg, Int.reduceNegSucc, ↓vz_seq]; done) | (simp only [go_sem, List.range', reduceIte, Nat.reduceLT, Nat.reduceAdd, Nat.reduceSub, Nat.reduceMul, Nat.reduceEqDiff, reduceCtorEq, Nat.reduceLeDiff, Int.reduceLT, Int.reduceLE, Int.reduceEq, Int.reduceAdd, Int.reduceToNat, Int.reduceNeg, Int.reduceNegSucc, ↓vz_seq]; rfl)) ?_)
      · simp only [go_sem, List.range', reduceIte, Nat.reduceLT, Nat.reduceAdd, Nat.reduceSub, Nat.reduceMul, Nat.reduceEqDiff, reduceCtorEq, Nat.reduceLeDiff, Int.reduceLT, Int.reduceLE, Int.reduceEq, Int.reduceAdd, Int.reduceToNat, Int.reduceNeg, Int.reduceNegSucc, ↓vz_seq]
        rw [List.drop_of_length_le (by omega), cntL] at he
        rw [he]
theorem Size_pure (t : Tm) : Pure Tryd.prog 20 [t.pv] (.int .i64 (min (t.size : Int) 2001)) := by
  refine pure_of Tryd.func20 rfl (by rfl) Tryd.ntmps20 Tryd.results20 (by simp) ?_
  simp only [go_sem, List.range', reduceIte, Nat.reduceLT, Nat.reduceAdd, Nat.reduceSub, Nat.reduceMul, Nat.reduceEqDiff, reduceCtorEq, Nat.reduceLeDiff, Int.reduceLT, Int.reduceLE, Int.reduceEq, Int.reduceAdd, Int.reduceToNat, Int.reduceNeg, Int.reduceNegSucc, ↓vz_seq]
  refine RefK.callH (count_ref t.depth t 0 (Nat.le_refl _) (by omega) (by omega)) [1, 2] (by simp) (by simp only [go_sem, List.range', reduceIte, Nat.reduceLT, Nat.reduceAdd, Nat.reduceSub, Nat.reduceMul, Nat.reduceEqDiff, reduceCtorEq, Nat.reduceLeDiff, Int.reduceLT, Int.reduceLE, Int.reduceEq, Int.reduceAdd, Int.reduceToNat, Int.reduceNeg, Int.reduceNegSucc, ↓vz_seq, okH, AObj.lt, AV.lt, AV.ltL]) (by simp [CR.lt, oltL, AObj.lt, AV.lt, AV.ltL]) (by first | (simp only [go_sem, List.range', reduceIte, Nat.reduceLT, Nat.reduceAdd, Nat.reduceSub, Nat.reduceMul, Nat.reduceEqDiff, reduceCtorEq, Nat.reduceLeDiff, Int.reduceLT, Int.reduceLE, Int.reduceEq, Int.reduceAdd, Int.reduceToNat, Int.reduceNeg, Int.reduceNegSucc, ↓vz_seq]; done) | (simp only [go_sem, List.range', reduceIte, Nat.reduceLT, Nat.reduceAdd, Nat.reduceSub, Nat.reduceMul, Nat.reduceEqDiff, reduceCtorEq, Nat.reduceLeDiff, Int.reduceLT, Int.reduceLE, Int.reduceEq, Int.reduceAdd, Int.reduceToNat, Int.reduceNeg, Int.reduceNegSucc, ↓vz_seq]; rfl)) ?_
  rintro r hs ⟨rfl, rfl⟩
  refine ⟨(by simp [CR.lt, oltL, AObj.lt, AV.lt, AV.ltL]), (by simp [CR.lt, oltL, AObj.lt, AV.lt, AV.ltL]), ?_⟩
  simp only [go_sem, List.range', reduceIte, Nat.reduceLT, Nat.reduceAdd, Nat.reduceSub, Nat.reduceMul, Nat.reduceEqDiff, reduceCtorEq, Nat.reduceLeDiff, Int.reduceLT, Int.reduceLE, Int.reduceEq, Int.reduceAdd, Int.reduceToNat, Int.reduceNeg, Int.reduceNegSucc, ↓vz_seq]
  rw [cntM_val t 0 (by omega), Int.zero_add]
end Go.Proofs.YtahamnipffckhaaDoor
