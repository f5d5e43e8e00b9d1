import Derived.Test.YtahamnipffckhaaDoorF8
import Derived.Test.YtahamnipffckhaaDoorF6
set_option linter.unusedVariables false
set_option linter.unusedSimpArgs false
namespace Go.Proofs.YtahamnipffckhaaDoor
open Go Go.RowKit
/-! term.Sort. -/
mutual
theorem ofM_mono : ∀ (t : Tm) (d s m : Int), s ≤ (ofM t d s m).1 ∧ m ≤ (ofM t d s m).2
  | .mk _ _ _ a, d, s, m => by
    simp only [ofM]
    have := ofL_mono a d (s + 1) (if d > m then d else m)
    split at this <;> split <;> omega
theorem ofL_mono : ∀ (a : List Tm) (d s m : Int), s ≤ (ofL a d s m).1 ∧ m ≤ (ofL a d s m).2
  | [], d, s, m => by simp only [ofL]; omega
  | x :: r, d, s, m => by
    simp only [ofL]
    split
    · simp only; omega
    · have h1 := ofM_mono x (d + 1) s m
      have h2 := ofL_mono r d (ofM x (d + 1) s m).1 (ofM x (d + 1) s m).2
      omega
end
mutual
theorem ofM_small : ∀ (t : Tm) (d s m : Int), s + t.size ≤ 2000 → d + t.depth ≤ 101 → ofM t d s m = (s + t.size, max m (d + t.depth - 1))
  | .mk _ _ _ a, d, s, m, h1, h2 => by
    simp only [ofM, Tm.size, Tm.depth] at *
    rw [ofL_small a d (s + 1) _ (by omega) (by omega) (by split <;> omega)]
    refine Prod.ext ?_ ?_
    · simp only; omega
    · simp only; split <;> omega
theorem ofL_small : ∀ (a : List Tm) (d s m : Int), s + Tm.sizeL a ≤ 2000 → d + Tm.depthL a ≤ 100 → d ≤ m → ofL a d s m = (s + Tm.sizeL a, max m (d + Tm.depthL a))
  | [], d, s, m, h1, h2, h3 => by
    simp only [ofL, Tm.sizeL, Tm.depthL] at *
    refine Prod.ext ?_ ?_ <;> simp only <;> omega
  | x :: r, d, s, m, h1, h2, h3 => by
    have hx : 1 ≤ x.depth := by rw [Tm.depth_eq]; omega
    have hz : 1 ≤ x.size := by rw [Tm.size_eq]; omega
    simp only [ofL, Tm.sizeL, Tm.depthL] at *
    rw [if_neg (by omega), ofM_small x (d + 1) s m (by omega) (by omega), ofL_small r d _ _ (by omega) (by omega) (by simp only; omega)]
    refine Prod.ext ?_ ?_ <;> simp only <;> omega
end
mutual
theorem ofM_big : ∀ (t : Tm) (d s m : Int), s ≤ 2000 → d ≤ 101 → (2000 < s + t.size ∨ 101 < d + t.depth) → 2000 < (ofM t d s m).1 ∨ 100 < (ofM t d s m).2
  | .mk _ _ _ a, d, s, m, h1, h2, h3 => by
    simp only [ofM, Tm.size, Tm.depth] at *
    refine ofL_big a d (s + 1) _ (by omega) (by omega) (by split <;> omega) ?_
    omega
theorem ofL_big : ∀ (a : List Tm) (d s m : Int), s ≤ 2001 → d ≤ 101 → d ≤ m → (2000 < s + Tm.sizeL a ∨ 100 < d + Tm.depthL a) → 2000 < (ofL a d s m).1 ∨ 100 < (ofL a d s m).2
  | [], d, s, m, h1, h2, h3, h4 => by
    simp only [ofL, Tm.sizeL, Tm.depthL] at *
    omega
  | x :: r, d, s, m, h1, h2, h3, h4 => by
    simp only [ofL, Tm.sizeL, Tm.depthL] at *
    split
    · simp only; omega
    · have hm := ofL_mono r d (ofM x (d + 1) s m).1 (ofM x (d + 1) s m).2
      by_cases hb : 2000 < s + (x.size : Int) ∨ 101 < d + 1 + (x.depth : Int)
      · have := ofM_big x (d + 1) s m (by omega) (by omega) hb
        omega
      · have hx := ofM_small x (d + 1) s m (by omega) (by omega)
        rw [hx]
        by_cases hd : 100 < max m (d + 1 + (x.depth : Int) - 1)
        · right
          have := (ofL_mono r d (s + x.size) (max m (d + 1 + (x.depth : Int) - 1))).2
          simp only
          omega
        · exact ofL_big r d _ _ (by omega) (by omega) (by simp only; omega) (by simp only; omega)
end
/-- A term's sort, and what is wrong with it. -/
def sortT (t : Tm) : Int × Int := if 2000 < t.size ∨ 100 < t.depth then (0, 7) else if rightB t 0 = true then ((shp t.op.toNat).sort, 0) else (0, 3)
theorem rightB_op {t : Tm} {s : Int} (h : rightB t s = true) : ∃ k : Nat, t.op = k ∧ 1 ≤ k ∧ k < 29 := by
  rw [rightB_eq] at h
  split at h
  · cases h
  · exact ⟨t.op.toNat, by omega, by omega, by omega⟩
set_option maxRecDepth 20000 in
theorem shCells_len : shCells.length = 145 := by decide
def Z106 : List AV := List.flatten (List.replicate 29 [.pv (.int .i64 0), .pv (.bool false), .pv (.bool false), .nils, .pv (.bool false)])
set_option maxRecDepth 20000 in
set_option maxHeartbeats 4000000 in
theorem Sort_pure (t : Tm) : Pure Tryd.prog 21 [t.pv] (.tup [.int .i64 (sortT t).1, .int .i64 (sortT t).2]) := by
  refine pure_of Tryd.func21 rfl (by rfl) Tryd.ntmps21 Tryd.results21 (by simp) ?_
  generalize hs : sortT t = st
  unfold sortT at hs
  have hb : (2000 < t.size ∨ 100 < t.depth) ↔ (2000 < (ofM t 1 0 0).1 ∨ 100 < (ofM t 1 0 0).2) := by
    constructor
    · intro h; exact ofM_big t 1 0 0 (by omega) (by omega) (by omega)
    · intro h
      by_cases hn : 2000 < t.size ∨ 100 < t.depth
      · exact hn
      · rw [ofM_small t 1 0 0 (by omega) (by omega)] at h
        simp only at h
        omega
  simp only [go_sem, List.range', reduceIte, Nat.reduceLT, Nat.reduceAdd, Nat.reduceSub, Nat.reduceMul, Nat.reduceEqDiff, reduceCtorEq, Nat.reduceLeDiff, Int.reduceLT, Int.reduceLE, Int.reduceEq, Int.reduceAdd, Int.reduceToNat, Int.reduceNeg, Int.reduceNegSucc, ↓vz_seq]
  refine RefK.callH (of_ref t.depth t 1 0 0 (Nat.le_refl _) (by omega) (by omega) (by omega) (by omega)) [1] (by simp) (by simp only [go_sem, List.range', reduceIte, Nat.reduceLT, Nat.reduceAdd, Nat.reduceSub, Nat.reduceMul, Nat.reduceEqDiff, reduceCtorEq, Nat.reduceLeDiff, Int.reduceLT, Int.reduceLE, Int.reduceEq, Int.reduceAdd, Int.reduceToNat, Int.reduceNeg, Int.reduceNegSucc, ↓vz_seq, okH, AObj.lt, AV.lt, AV.ltL]) (by simp [CR.lt, oltL, AObj.lt, AV.lt, AV.ltL]) (by first | (simp only [go_sem, List.range', reduceIte, Nat.reduceLT, Nat.reduceAdd, Nat.reduceSub, Nat.reduceMul, Nat.reduceEqDiff, reduceCtorEq, Nat.reduceLeDiff, Int.reduceLT, Int.reduceLE, Int.reduceEq, Int.reduceAdd, Int.reduceToNat, Int.reduceNeg, Int.reduceNegSucc, ↓vz_seq]; done) | (simp only [go_sem, List.range', reduceIte, Nat.reduceLT, Nat.reduceAdd, Nat.reduceSub, Nat.reduceMul, Nat.reduceEqDiff, reduceCtorEq, Nat.reduceLeDiff, Int.reduceLT, Int.reduceLE, Int.reduceEq, Int.reduceAdd, Int.reduceToNat, Int.reduceNeg, Int.reduceNegSucc, ↓vz_seq]; rfl)) ?_
  rintro r hs ⟨rfl, rfl⟩
  refine ⟨(by simp [CR.lt, oltL, AObj.lt, AV.lt, AV.ltL]), (by simp [CR.lt, oltL, AObj.lt, AV.lt, AV.ltL]), ?_⟩
  generalize hm : ofM t 1 0 0 = mm at hb
  simp only [go_sem, List.range', reduceIte, Nat.reduceLT, Nat.reduceAdd, Nat.reduceSub, Nat.reduceMul, Nat.reduceEqDiff, reduceCtorEq, Nat.reduceLeDiff, Int.reduceLT, Int.reduceLE, Int.reduceEq, Int.reduceAdd, Int.reduceToNat, Int.reduceNeg, Int.reduceNegSucc, ↓vz_seq]
  refine brG_dec (fun h1 => ?_) (fun h1 => ?_)
  · rw [if_pos (hb.2 (.inl h1))] at hs
    subst hs
    simp only [go_sem, List.range', reduceIte, Nat.reduceLT, Nat.reduceAdd, Nat.reduceSub, Nat.reduceMul, Nat.reduceEqDiff, reduceCtorEq, Nat.reduceLeDiff, Int.reduceLT, Int.reduceLE, Int.reduceEq, Int.reduceAdd, Int.reduceToNat, Int.reduceNeg, Int.reduceNegSucc, ↓vz_seq, decide_eq_true h1]
  simp only [go_sem, List.range', reduceIte, Nat.reduceLT, Nat.reduceAdd, Nat.reduceSub, Nat.reduceMul, Nat.reduceEqDiff, reduceCtorEq, Nat.reduceLeDiff, Int.reduceLT, Int.reduceLE, Int.reduceEq, Int.reduceAdd, Int.reduceToNat, Int.reduceNeg, Int.reduceNegSucc, ↓vz_seq, decide_eq_false h1]
  refine brB_dec (fun h2 => ?_) (fun h2 => ?_)
  · rw [if_pos (hb.2 (.inr h2))] at hs
    subst hs
    simp only [go_sem, List.range', reduceIte, Nat.reduceLT, Nat.reduceAdd, Nat.reduceSub, Nat.reduceMul, Nat.reduceEqDiff, reduceCtorEq, Nat.reduceLeDiff, Int.reduceLT, Int.reduceLE, Int.reduceEq, Int.reduceAdd, Int.reduceToNat, Int.reduceNeg, Int.reduceNegSucc, ↓vz_seq]
  rw [if_neg (fun h => (hb.1 h).elim h1 h2)] at hs
  simp only [go_sem, List.range', reduceIte, Nat.reduceLT, Nat.reduceAdd, Nat.reduceSub, Nat.reduceMul, Nat.reduceEqDiff, reduceCtorEq, Nat.reduceLeDiff, Int.reduceLT, Int.reduceLE, Int.reduceEq, Int.reduceAdd, Int.reduceToNat, Int.reduceNeg, Int.reduceNegSucc, ↓vz_seq]
  refine Pure.call shapes_pure (by first | (simp only [go_sem, List.range', reduceIte, Nat.reduceLT, Nat.reduceAdd, Nat.reduceSub, Nat.reduceMul, Nat.reduceEqDiff, reduceCtorEq, Nat.reduceLeDiff, Int.reduceLT, Int.reduceLE, Int.reduceEq, Int.reduceAdd, Int.reduceToNat, Int.reduceNeg, Int.reduceNegSucc, ↓vz_seq]; done) | (simp only [go_sem, List.range', reduceIte, Nat.reduceLT, Nat.reduceAdd, Nat.reduceSub, Nat.reduceMul, Nat.reduceEqDiff, reduceCtorEq, Nat.reduceLeDiff, Int.reduceLT, Int.reduceLE, Int.reduceEq, Int.reduceAdd, Int.reduceToNat, Int.reduceNeg, Int.reduceNegSucc, ↓vz_seq]; rfl)) ?_
  simp only [go_sem, List.range', reduceIte, Nat.reduceLT, Nat.reduceAdd, Nat.reduceSub, Nat.reduceMul, Nat.reduceEqDiff, reduceCtorEq, Nat.reduceLeDiff, Int.reduceLT, Int.reduceLE, Int.reduceEq, Int.reduceAdd, Int.reduceToNat, Int.reduceNeg, Int.reduceNegSucc, ↓vz_seq, shCells_len]
  rw [show List.map AV.pv shCells = SHc from rfl]
  refine RefK.callH (right_ref t.depth t 0 (Nat.le_refl _)) [2] (by simp) (by simp only [go_sem, List.range', reduceIte, Nat.reduceLT, Nat.reduceAdd, Nat.reduceSub, Nat.reduceMul, Nat.reduceEqDiff, reduceCtorEq, Nat.reduceLeDiff, Int.reduceLT, Int.reduceLE, Int.reduceEq, Int.reduceAdd, Int.reduceToNat, Int.reduceNeg, Int.reduceNegSucc, ↓vz_seq, okH, AObj.lt, AV.lt, AV.ltL]) (by simp [CR.lt, oltL, AObj.lt, AV.lt, AV.ltL]) (by first | (simp only [go_sem, List.range', reduceIte, Nat.reduceLT, Nat.reduceAdd, Nat.reduceSub, Nat.reduceMul, Nat.reduceEqDiff, reduceCtorEq, Nat.reduceLeDiff, Int.reduceLT, Int.reduceLE, Int.reduceEq, Int.reduceAdd, Int.reduceToNat, Int.reduceNeg, Int.reduceNegSucc, ↓vz_seq]; done) | (simp only [go_sem, List.range', reduceIte, Nat.reduceLT, Nat.reduceAdd, Nat.reduceSub, Nat.reduceMul, Nat.reduceEqDiff, reduceCtorEq, Nat.reduceLeDiff, Int.reduceLT, Int.reduceLE, Int.reduceEq, Int.reduceAdd, Int.reduceToNat, Int.reduceNeg, Int.reduceNegSucc, ↓vz_seq]; rfl)) ?_
  rintro r hs ⟨rfl, rfl⟩
  refine ⟨(by simp [CR.lt, oltL, AObj.lt, AV.lt, AV.ltL]), (by simp [CR.lt, oltL, AObj.lt, AV.lt, AV.ltL]), ?_⟩
  simp only [go_sem, List.range', reduceIte, Nat.reduceLT, Nat.reduceAdd, Nat.reduceSub, Nat.reduceMul, Nat.reduceEqDiff, reduceCtorEq, Nat.reduceLeDiff, Int.reduceLT, Int.reduceLE, Int.reduceEq, Int.reduceAdd, Int.reduceToNat, Int.reduceNeg, Int.reduceNegSucc, ↓vz_seq]
  refine brB_of (fun hz => ?_) (fun hz => ?_)
  · simp only [Bool.not_eq_true'] at hz
    rw [if_neg (by rw [hz]; simp)] at hs
    subst hs
    simp only [go_sem, List.range', reduceIte, Nat.reduceLT, Nat.reduceAdd, Nat.reduceSub, Nat.reduceMul, Nat.reduceEqDiff, reduceCtorEq, Nat.reduceLeDiff, Int.reduceLT, Int.reduceLE, Int.reduceEq, Int.reduceAdd, Int.reduceToNat, Int.reduceNeg, Int.reduceNegSucc, ↓vz_seq]
  · simp only [Bool.not_eq_false'] at hz
    rw [if_pos hz] at hs
    subst hs
    obtain ⟨k, hk, k1, k2⟩ := rightB_op hz
    have hlt29 : ((k : Int) < ((29 : Nat) : Int)) := by omega
    rw [hk, Int.toNat_natCast]
    simp only [go_sem, List.range', reduceIte, Nat.reduceLT, Nat.reduceAdd, Nat.reduceSub, Nat.reduceMul, Nat.reduceEqDiff, reduceCtorEq, Nat.reduceLeDiff, Int.reduceLT, Int.reduceLE, Int.reduceEq, Int.reduceAdd, Int.reduceToNat, Int.reduceNeg, Int.reduceNegSucc, ↓vz_seq, Int.natCast_nonneg, hlt29, Nat.zero_add, Nat.add_zero, SHc_at k k2, List.head?_cons]
end Go.Proofs.YtahamnipffckhaaDoor
