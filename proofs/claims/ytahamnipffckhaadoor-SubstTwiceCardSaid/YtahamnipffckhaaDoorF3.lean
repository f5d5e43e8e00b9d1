import Derived.Test.YtahamnipffckhaaDoorF2
set_option linter.unusedVariables false
set_option linter.unusedSimpArgs false
namespace Go.Proofs.YtahamnipffckhaaDoor
open Go Go.RowKit
mutual
def ofM : Tm → Int → Int → Int → Int × Int
  | .mk _ _ _ a, d, s, m => ofL a d (s + 1) (if d > m then d else m)
def ofL : List Tm → Int → Int → Int → Int × Int
  | [], _, s, m => (s, m)
  | x :: r, d, s, m => if s > 2000 ∨ d > 100 then (s, m) else ofL r d (ofM x (d + 1) s m).1 (ofM x (d + 1) s m).2
end
theorem ofM_eq (t : Tm) (d s m : Int) : ofM t d s m = ofL t.a d (s + 1) (if d > m then d else m) := by cases t; simp only [ofM, Tm.a]
mutual
theorem ofM_bnd : ∀ (t : Tm) (d s m : Int), s ≤ 2000 → s ≤ (ofM t d s m).1 ∧ (ofM t d s m).1 ≤ 2001
  | .mk _ _ _ a, d, s, m, h => by simp only [ofM]; have := ofL_bnd a d (s + 1) (if d > m then d else m) (by omega); omega
theorem ofL_bnd : ∀ (a : List Tm) (d s m : Int), s ≤ 2001 → s ≤ (ofL a d s m).1 ∧ (ofL a d s m).1 ≤ 2001
  | [], d, s, m, h => by simp only [ofL]; omega
  | x :: r, d, s, m, h => by
    simp only [ofL]
    split
    · simp only; omega
    · have h1 := ofM_bnd x (d + 1) s m (by omega)
      have h2 := ofL_bnd r d (ofM x (d + 1) s m).1 (ofM x (d + 1) s m).2 (by omega)
      omega
end
def E55 (t : Tm) (d : Int) (i : Nat) : AEnv :=
  ((((E0.put 0 (.ptr 0 0)).put 2 (.pv (.int .i64 d))).put 25 (.pv (.sl (t.a.map Tm.cells)))).put 26 (.pv (.int .i64 (t.a.length : Int)))).put 27 (.pv (.int .i64 (i : Int)))
theorem of_ref : ∀ (k : Nat) (t : Tm) (d s m : Int), t.depth ≤ k → 1 ≤ d → d ≤ 101 → 0 ≤ s → s ≤ 2000 →
    RefK Tryd.prog 55 [.ptr 0 0, .pv t.pv, .pv (.int .i64 d)] [.box [.pv (.int .i64 s), .pv (.int .i64 m)]]
      (fun r hs => r = .ret (.tup []) ∧ hs = [.box [.pv (.int .i64 (ofM t d s m).1), .pv (.int .i64 (ofM t d s m).2)]])
  | 0, t, d, s, m, hk, _, _, _, _ => by rw [Tm.depth_eq] at hk; omega
  | k + 1, t, d, s, m, hk, d1, d2, s1, s2 => by
    refine RefK.fit (ent_of Tryd.func55 rfl (by rfl)) fun hfit => ?_
    simp only [fitAL, fitA, fitL, fitP, List.length_map] at hfit
    have hlen : t.a.length ≤ 140737488355328 := hfit.2.1.2.2.2.1.1
    refine refK_of Tryd.func55 rfl (by rfl) Tryd.ntmps55 Tryd.results55 (by simp) rfl ?_
    simp only [go_sem, List.range', reduceIte, Nat.reduceLT, Nat.reduceAdd, Nat.reduceSub, Nat.reduceMul, Nat.reduceEqDiff, reduceCtorEq, Nat.reduceLeDiff, Int.reduceLT, Int.reduceLE, Int.reduceEq, Int.reduceAdd, Int.reduceToNat, Int.reduceNeg, Int.reduceNegSucc, ↓vz_seq]
    rw [wrap_i64 (by omega)]
    refine vz_loop (fun i => t.a.length - i) (fun i e h => ∃ s' m' : Int, ofM t d s m = ofL (t.a.drop i) d s' m' ∧ 0 ≤ s' ∧ s' ≤ 2001 ∧ i ≤ t.a.length ∧ e = E55 t d i ∧ h = [.box [.pv (.int .i64 s'), .pv (.int .i64 m')]]) 0 ?_ ?_
    · refine ⟨E55 t d 0, _, Wk.perm [0] (by simp) rfl (by simp only [go_sem, List.range', reduceIte, Nat.reduceLT, Nat.reduceAdd, Nat.reduceSub, Nat.reduceMul, Nat.reduceEqDiff, reduceCtorEq, Nat.reduceLeDiff, Int.reduceLT, Int.reduceLE, Int.reduceEq, Int.reduceAdd, Int.reduceToNat, Int.reduceNeg, Int.reduceNegSucc, ↓vz_seq, okH, AObj.lt, AV.lt, AV.ltL]) ?_, s + 1, (if d > m then d else m), by rw [ofM_eq]; rfl, by omega, by omega, Nat.zero_le _, rfl, rfl⟩
      unfold E55
      repeat (first | exact okE_E0 | refine okE_put (by first | trivial | (simp [AV.lt, AV.ltL]; done)) (by first | (simp only [go_sem, List.range', reduceIte, Nat.reduceLT, Nat.reduceAdd, Nat.reduceSub, Nat.reduceMul, Nat.reduceEqDiff, reduceCtorEq, Nat.reduceLeDiff, Int.reduceLT, Int.reduceLE, Int.reduceEq, Int.reduceAdd, Int.reduceToNat, Int.reduceNeg, Int.reduceNegSucc, ↓vz_seq]; done) | (simp only [go_sem, List.range', reduceIte, Nat.reduceLT, Nat.reduceAdd, Nat.reduceSub, Nat.reduceMul, Nat.reduceEqDiff, reduceCtorEq, Nat.reduceLeDiff, Int.reduceLT, Int.reduceLE, Int.reduceEq, Int.reduceAdd, Int.reduceToNat, Int.reduceNeg, Int.reduceNegSucc, ↓vz_seq]; rfl)) ?_)
    · rintro i _ _ ⟨s', m', he, s3, s4, hi, rfl, rfl⟩
      simp only [go_sem, List.range', reduceIte, Nat.reduceLT, Nat.reduceAdd, Nat.reduceSub, Nat.reduceMul, Nat.reduceEqDiff, reduceCtorEq, Nat.reduceLeDiff, Int.reduceLT, Int.reduceLE, Int.reduceEq, Int.reduceAdd, Int.reduceToNat, Int.reduceNeg, Int.reduceNegSucc, ↓vz_seq, E55]
      refine brB_dec (fun hlt => ?_) (fun hge => ?_)
      · have hlt' : i < t.a.length := by omega
        have hx : t.a[i]? = some t.a[i] := List.getElem?_eq_getElem hlt'
        have hxm : t.a[i] ∈ t.a := List.getElem_mem hlt'
        have hxd := Tm.depth_lt hxm
        rw [List.drop_eq_getElem_cons hlt', ofL] at he
        simp only [go_sem, List.range', reduceIte, Nat.reduceLT, Nat.reduceAdd, Nat.reduceSub, Nat.reduceMul, Nat.reduceEqDiff, reduceCtorEq, Nat.reduceLeDiff, Int.reduceLT, Int.reduceLE, Int.reduceEq, Int.reduceAdd, Int.reduceToNat, Int.reduceNeg, Int.reduceNegSucc, ↓vz_seq, hx, hlt, Int.natCast_nonneg, Tm.cells_eq]
        refine brG_dec (fun h1 => ?_) (fun h1 => ?_)
        · simp only [go_sem, List.range', reduceIte, Nat.reduceLT, Nat.reduceAdd, Nat.reduceSub, Nat.reduceMul, Nat.reduceEqDiff, reduceCtorEq, Nat.reduceLeDiff, Int.reduceLT, Int.reduceLE, Int.reduceEq, Int.reduceAdd, Int.reduceToNat, Int.reduceNeg, Int.reduceNegSucc, ↓vz_seq, h1]
          rw [if_pos (by omega)] at he
          rw [he]
        · simp only [go_sem, List.range', reduceIte, Nat.reduceLT, Nat.reduceAdd, Nat.reduceSub, Nat.reduceMul, Nat.reduceEqDiff, reduceCtorEq, Nat.reduceLeDiff, Int.reduceLT, Int.reduceLE, Int.reduceEq, Int.reduceAdd, Int.reduceToNat, Int.reduceNeg, Int.reduceNegSucc, ↓vz_seq, h1]
          refine brB_dec (fun h2 => ?_) (fun h2 => ?_)
          · simp only [go_sem, List.range', reduceIte, Nat.reduceLT, Nat.reduceAdd, Nat.reduceSub, Nat.reduceMul, Nat.reduceEqDiff, reduceCtorEq, Nat.reduceLeDiff, Int.reduceLT, Int.reduceLE, Int.reduceEq, Int.reduceAdd, Int.reduceToNat, Int.reduceNeg, Int.reduceNegSucc, ↓vz_seq, h2]
            rw [if_pos (by omega)] at he
            rw [he]
          · rw [if_neg (by omega)] at he
            simp only [go_sem, List.range', reduceIte, Nat.reduceLT, Nat.reduceAdd, Nat.reduceSub, Nat.reduceMul, Nat.reduceEqDiff, reduceCtorEq, Nat.reduceLeDiff, Int.reduceLT, Int.reduceLE, Int.reduceEq, Int.reduceAdd, Int.reduceToNat, Int.reduceNeg, Int.reduceNegSucc, ↓vz_seq]
            rw [wrap_i64 (by omega)]
            refine RefK.callH (of_ref k t.a[i] (d + 1) s' m' (by omega) (by omega) (by omega) s3 (by omega)) [0] (by simp) (by simp only [go_sem, List.range', reduceIte, Nat.reduceLT, Nat.reduceAdd, Nat.reduceSub, Nat.reduceMul, Nat.reduceEqDiff, reduceCtorEq, Nat.reduceLeDiff, Int.reduceLT, Int.reduceLE, Int.reduceEq, Int.reduceAdd, Int.reduceToNat, Int.reduceNeg, Int.reduceNegSucc, ↓vz_seq, okH, AObj.lt, AV.lt, AV.ltL]) (by simp [CR.lt, oltL, AObj.lt, AV.lt, AV.ltL]) (by first | (simp only [go_sem, List.range', reduceIte, Nat.reduceLT, Nat.reduceAdd, Nat.reduceSub, Nat.reduceMul, Nat.reduceEqDiff, reduceCtorEq, Nat.reduceLeDiff, Int.reduceLT, Int.reduceLE, Int.reduceEq, Int.reduceAdd, Int.reduceToNat, Int.reduceNeg, Int.reduceNegSucc, ↓vz_seq]; done) | (simp only [go_sem, List.range', reduceIte, Nat.reduceLT, Nat.reduceAdd, Nat.reduceSub, Nat.reduceMul, Nat.reduceEqDiff, reduceCtorEq, Nat.reduceLeDiff, Int.reduceLT, Int.reduceLE, Int.reduceEq, Int.reduceAdd, Int.reduceToNat, Int.reduceNeg, Int.reduceNegSucc, ↓vz_seq]; rfl)) ?_
            rintro r hs ⟨rfl, rfl⟩
            refine ⟨(by simp [CR.lt, oltL, AObj.lt, AV.lt, AV.ltL]), (by simp [CR.lt, oltL, AObj.lt, AV.lt, AV.ltL]), ?_⟩
            have hb := ofM_bnd t.a[i] (d + 1) s' m' (by omega)
            simp only [go_sem, List.range', reduceIte, Nat.reduceLT, Nat.reduceAdd, Nat.reduceSub, Nat.reduceMul, Nat.reduceEqDiff, reduceCtorEq, Nat.reduceLeDiff, Int.reduceLT, Int.reduceLE, Int.reduceEq, Int.reduceAdd, Int.reduceToNat, Int.reduceNeg, Int.reduceNegSucc, ↓vz_seq]
            rw [wrap_i64 (by omega)]
            refine ⟨i + 1, by omega, E55 t d (i + 1), _, Wk.perm [0] (by simp) rfl (by simp only [go_sem, List.range', reduceIte, Nat.reduceLT, Nat.reduceAdd, Nat.reduceSub, Nat.reduceMul, Nat.reduceEqDiff, reduceCtorEq, Nat.reduceLeDiff, Int.reduceLT, Int.reduceLE, Int.reduceEq, Int.reduceAdd, Int.reduceToNat, Int.reduceNeg, Int.reduceNegSucc, ↓vz_seq, okH, AObj.lt, AV.lt, AV.ltL]) ?_, (ofM t.a[i] (d + 1) s' m').1, (ofM t.a[i] (d + 1) s' m').2, he, by omega, by omega, hlt', rfl, rfl⟩
            unfold E55
            repeat (first | exact okE_E0 | refine okE_put (by first | trivial | (simp [AV.lt, AV.ltL]; done)) (by first | (simp only [go_sem, List.range', reduceIte, Nat.reduceLT, Nat.reduceAdd, Nat.reduceSub, Nat.reduceMul, Nat.reduceEqDiff, reduceCtorEq, Nat.reduceLeDiff, Int.reduceLT, Int.reduceLE, Int.reduceEq, Int.reduceAdd, Int.reduceToNat, Int.reduceNeg, Int.reduceNegSucc, ↓vz_seq]; done) | (simp only [go_sem, List.range', reduceIte, Nat.reduceLT, Nat.reduceAdd, Nat.reduceSub, Nat.reduceMul, Nat.reduceEqDiff, reduceCtorEq, Nat.reduceLeDiff, Int.reduceLT, Int.reduceLE, Int.reduceEq, Int.reduceAdd, Int.reduceToNat, Int.reduceNeg, Int.reduceNegSucc, ↓vz_seq]; rfl)) ?_)
      · simp only [go_sem, List.range', reduceIte, Nat.reduceLT, Nat.reduceAdd, Nat.reduceSub, Nat.reduceMul, Nat.reduceEqDiff, reduceCtorEq, Nat.reduceLeDiff, Int.reduceLT, Int.reduceLE, Int.reduceEq, Int.reduceAdd, Int.reduceToNat, Int.reduceNeg, Int.reduceNegSucc, ↓vz_seq]
        rw [List.drop_of_length_le (by omega), ofL] at he
        rw [he]
end Go.Proofs.YtahamnipffckhaaDoor
