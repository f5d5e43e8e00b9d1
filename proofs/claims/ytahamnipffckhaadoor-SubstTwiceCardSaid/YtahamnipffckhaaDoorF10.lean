import Derived.Test.YtahamnipffckhaaDoorF9
set_option linter.unusedVariables false
set_option linter.unusedSimpArgs false
namespace Go.Proofs.YtahamnipffckhaaDoor
open Go Go.RowKit
/-! cmp.Compare, cmp.Or, the order of names. -/
def ltS (a b : ByteArray) : Bool := Op.bytesLess a.toList b.toList
@[go_sem] theorem bin_lssS {P : Program} (t : TypeId) (a b : ByteArray) : binR P .lss t (.pv (.str a)) (.pv (.str b)) = some (.pv (.bool (ltS a b))) := by
  simp [binR, binS, sval, binOp, Op.stringOp, semPure, cst0, pure, ltS]
@[go_sem] theorem bin_gtrS {P : Program} (t : TypeId) (a b : ByteArray) : binR P .gtr t (.pv (.str a)) (.pv (.str b)) = some (.pv (.bool (!(ltS a b || decide (a = b))))) := by
  simp [binR, binS, sval, binOp, Op.stringOp, semPure, cst0, pure, ltS, bytes_eq]
theorem bl_irrefl : ∀ l : List UInt8, Op.bytesLess l l = false
  | [] => rfl
  | a :: x => by simp [Op.bytesLess, bl_irrefl x]
theorem bl_trans : ∀ {a b c : List UInt8}, Op.bytesLess a b = true → Op.bytesLess b c = true → Op.bytesLess a c = true
  | _, [], _, h, _ => by simp [Op.bytesLess] at h
  | _, _ :: _, [], _, h => by simp [Op.bytesLess] at h
  | [], _ :: _, _ :: _, _, _ => by simp [Op.bytesLess]
  | a :: x, b :: y, c :: z, h, k => by
    simp only [Op.bytesLess, Bool.or_eq_true, decide_eq_true_eq, Bool.and_eq_true, beq_iff_eq] at *
    rcases h with h | ⟨rfl, h⟩ <;> rcases k with k | ⟨rfl, k⟩
    · exact .inl (UInt8.lt_trans h k)
    · exact .inl h
    · exact .inl k
    · exact .inr ⟨rfl, bl_trans h k⟩
theorem bl_tri : ∀ {a b : List UInt8}, Op.bytesLess a b = false → a ≠ b → Op.bytesLess b a = true
  | [], [], _, h => absurd rfl h
  | a :: x, [], _, _ => by simp [Op.bytesLess]
  | [], _ :: _, h, _ => by simp [Op.bytesLess] at h
  | a :: x, b :: y, h, k => by
    simp only [Op.bytesLess, Bool.or_eq_false_iff, decide_eq_false_iff_not, Bool.and_eq_false_imp, beq_iff_eq, Bool.or_eq_true, decide_eq_true_eq, Bool.and_eq_true] at *
    by_cases e : a = b
    · subst e
      exact .inr ⟨rfl, bl_tri (h.2 rfl) (fun q => k (by rw [q]))⟩
    · left
      have h1 : ¬ a.toNat < b.toNat := fun q => h.1 (UInt8.lt_iff_toNat_lt.2 q)
      exact UInt8.lt_iff_toNat_lt.2 (by
        have : a.toNat ≠ b.toNat := fun q => e (UInt8.toNat_inj.1 q)
        omega)
theorem toList_inj' {a b : ByteArray} (h : a.toList = b.toList) : a = b := by
  simp only [ByteArray.toList_eq] at h
  cases a; cases b
  simp only [Array.toList_inj] at h
  rw [h]
def cmpS (a b : ByteArray) : Int := if ltS a b = true then -1 else if a = b then 0 else 1
def cmpI (a b : Int) : Int := if a < b then -1 else if b < a then 1 else 0
def cmpN (a b : ByteArray × Int) : Int := if cmpS a.1 b.1 ≠ 0 then cmpS a.1 b.1 else cmpI a.2 b.2
theorem isNaNs_pure (a : ByteArray) : Pure Tryd.prog 71 [.str a] (.bool false) := by
  refine pure_of Tryd.func71 rfl (by rfl) Tryd.ntmps71 Tryd.results71 (by simp) ?_
  simp only [go_sem, List.range', reduceIte, Nat.reduceLT, Nat.reduceAdd, Nat.reduceSub, Nat.reduceMul, Nat.reduceEqDiff, reduceCtorEq, Nat.reduceLeDiff, Int.reduceLT, Int.reduceLE, Int.reduceEq, Int.reduceAdd, Int.reduceToNat, Int.reduceNeg, Int.reduceNegSucc, ↓vz_seq, decide_true]
theorem isNaNi_pure (a : Int) : Pure Tryd.prog 72 [.int .i64 a] (.bool false) := by
  refine pure_of Tryd.func72 rfl (by rfl) Tryd.ntmps72 Tryd.results72 (by simp) ?_
  simp only [go_sem, List.range', reduceIte, Nat.reduceLT, Nat.reduceAdd, Nat.reduceSub, Nat.reduceMul, Nat.reduceEqDiff, reduceCtorEq, Nat.reduceLeDiff, Int.reduceLT, Int.reduceLE, Int.reduceEq, Int.reduceAdd, Int.reduceToNat, Int.reduceNeg, Int.reduceNegSucc, ↓vz_seq, decide_true]
theorem cmpS_pure (a b : ByteArray) : Pure Tryd.prog 49 [.str a, .str b] (.int .i64 (cmpS a b)) := by
  refine pure_of Tryd.func49 rfl (by rfl) Tryd.ntmps49 Tryd.results49 (by simp) ?_
  simp only [go_sem, List.range', reduceIte, Nat.reduceLT, Nat.reduceAdd, Nat.reduceSub, Nat.reduceMul, Nat.reduceEqDiff, reduceCtorEq, Nat.reduceLeDiff, Int.reduceLT, Int.reduceLE, Int.reduceEq, Int.reduceAdd, Int.reduceToNat, Int.reduceNeg, Int.reduceNegSucc, ↓vz_seq]
  refine Pure.call (isNaNs_pure a) (by first | (simp only [go_sem, List.range', reduceIte, Nat.reduceLT, Nat.reduceAdd, Nat.reduceSub, Nat.reduceMul, Nat.reduceEqDiff, reduceCtorEq, Nat.reduceLeDiff, Int.reduceLT, Int.reduceLE, Int.reduceEq, Int.reduceAdd, Int.reduceToNat, Int.reduceNeg, Int.reduceNegSucc, ↓vz_seq]; done) | (simp only [go_sem, List.range', reduceIte, Nat.reduceLT, Nat.reduceAdd, Nat.reduceSub, Nat.reduceMul, Nat.reduceEqDiff, reduceCtorEq, Nat.reduceLeDiff, Int.reduceLT, Int.reduceLE, Int.reduceEq, Int.reduceAdd, Int.reduceToNat, Int.reduceNeg, Int.reduceNegSucc, ↓vz_seq]; rfl)) ?_
  simp only [go_sem, List.range', reduceIte, Nat.reduceLT, Nat.reduceAdd, Nat.reduceSub, Nat.reduceMul, Nat.reduceEqDiff, reduceCtorEq, Nat.reduceLeDiff, Int.reduceLT, Int.reduceLE, Int.reduceEq, Int.reduceAdd, Int.reduceToNat, Int.reduceNeg, Int.reduceNegSucc, ↓vz_seq]
  refine Pure.call (isNaNs_pure b) (by first | (simp only [go_sem, List.range', reduceIte, Nat.reduceLT, Nat.reduceAdd, Nat.reduceSub, Nat.reduceMul, Nat.reduceEqDiff, reduceCtorEq, Nat.reduceLeDiff, Int.reduceLT, Int.reduceLE, Int.reduceEq, Int.reduceAdd, Int.reduceToNat, Int.reduceNeg, Int.reduceNegSucc, ↓vz_seq]; done) | (simp only [go_sem, List.range', reduceIte, Nat.reduceLT, Nat.reduceAdd, Nat.reduceSub, Nat.reduceMul, Nat.reduceEqDiff, reduceCtorEq, Nat.reduceLeDiff, Int.reduceLT, Int.reduceLE, Int.reduceEq, Int.reduceAdd, Int.reduceToNat, Int.reduceNeg, Int.reduceNegSucc, ↓vz_seq]; rfl)) ?_
  simp only [go_sem, List.range', reduceIte, Nat.reduceLT, Nat.reduceAdd, Nat.reduceSub, Nat.reduceMul, Nat.reduceEqDiff, reduceCtorEq, Nat.reduceLeDiff, Int.reduceLT, Int.reduceLE, Int.reduceEq, Int.reduceAdd, Int.reduceToNat, Int.reduceNeg, Int.reduceNegSucc, ↓vz_seq]
  refine brB_bool (fun h1 => ?_) (fun h1 => ?_)
  · simp only [go_sem, List.range', reduceIte, Nat.reduceLT, Nat.reduceAdd, Nat.reduceSub, Nat.reduceMul, Nat.reduceEqDiff, reduceCtorEq, Nat.reduceLeDiff, Int.reduceLT, Int.reduceLE, Int.reduceEq, Int.reduceAdd, Int.reduceToNat, Int.reduceNeg, Int.reduceNegSucc, ↓vz_seq, cmpS, h1]
  · simp only [go_sem, List.range', reduceIte, Nat.reduceLT, Nat.reduceAdd, Nat.reduceSub, Nat.reduceMul, Nat.reduceEqDiff, reduceCtorEq, Nat.reduceLeDiff, Int.reduceLT, Int.reduceLE, Int.reduceEq, Int.reduceAdd, Int.reduceToNat, Int.reduceNeg, Int.reduceNegSucc, ↓vz_seq]
    refine brB_of (fun h2 => ?_) (fun h2 => ?_)
    · simp only [h1, Bool.false_or, Bool.not_eq_true', decide_eq_false_iff_not] at h2
      simp only [go_sem, List.range', reduceIte, Nat.reduceLT, Nat.reduceAdd, Nat.reduceSub, Nat.reduceMul, Nat.reduceEqDiff, reduceCtorEq, Nat.reduceLeDiff, Int.reduceLT, Int.reduceLE, Int.reduceEq, Int.reduceAdd, Int.reduceToNat, Int.reduceNeg, Int.reduceNegSucc, ↓vz_seq, cmpS, h1, h2, Bool.false_eq_true]
    · simp only [h1, Bool.false_or, Bool.not_eq_false', decide_eq_true_eq] at h2
      subst h2
      simp only [go_sem, List.range', reduceIte, Nat.reduceLT, Nat.reduceAdd, Nat.reduceSub, Nat.reduceMul, Nat.reduceEqDiff, reduceCtorEq, Nat.reduceLeDiff, Int.reduceLT, Int.reduceLE, Int.reduceEq, Int.reduceAdd, Int.reduceToNat, Int.reduceNeg, Int.reduceNegSucc, ↓vz_seq, cmpS, h1, Bool.false_eq_true]
theorem cmpI_pure (a b : Int) : Pure Tryd.prog 50 [.int .i64 a, .int .i64 b] (.int .i64 (cmpI a b)) := by
  refine pure_of Tryd.func50 rfl (by rfl) Tryd.ntmps50 Tryd.results50 (by simp) ?_
  simp only [go_sem, List.range', reduceIte, Nat.reduceLT, Nat.reduceAdd, Nat.reduceSub, Nat.reduceMul, Nat.reduceEqDiff, reduceCtorEq, Nat.reduceLeDiff, Int.reduceLT, Int.reduceLE, Int.reduceEq, Int.reduceAdd, Int.reduceToNat, Int.reduceNeg, Int.reduceNegSucc, ↓vz_seq]
  refine Pure.call (isNaNi_pure a) (by first | (simp only [go_sem, List.range', reduceIte, Nat.reduceLT, Nat.reduceAdd, Nat.reduceSub, Nat.reduceMul, Nat.reduceEqDiff, reduceCtorEq, Nat.reduceLeDiff, Int.reduceLT, Int.reduceLE, Int.reduceEq, Int.reduceAdd, Int.reduceToNat, Int.reduceNeg, Int.reduceNegSucc, ↓vz_seq]; done) | (simp only [go_sem, List.range', reduceIte, Nat.reduceLT, Nat.reduceAdd, Nat.reduceSub, Nat.reduceMul, Nat.reduceEqDiff, reduceCtorEq, Nat.reduceLeDiff, Int.reduceLT, Int.reduceLE, Int.reduceEq, Int.reduceAdd, Int.reduceToNat, Int.reduceNeg, Int.reduceNegSucc, ↓vz_seq]; rfl)) ?_
  simp only [go_sem, List.range', reduceIte, Nat.reduceLT, Nat.reduceAdd, Nat.reduceSub, Nat.reduceMul, Nat.reduceEqDiff, reduceCtorEq, Nat.reduceLeDiff, Int.reduceLT, Int.reduceLE, Int.reduceEq, Int.reduceAdd, Int.reduceToNat, Int.reduceNeg, Int.reduceNegSucc, ↓vz_seq]
  refine Pure.call (isNaNi_pure b) (by first | (simp only [go_sem, List.range', reduceIte, Nat.reduceLT, Nat.reduceAdd, Nat.reduceSub, Nat.reduceMul, Nat.reduceEqDiff, reduceCtorEq, Nat.reduceLeDiff, Int.reduceLT, Int.reduceLE, Int.reduceEq, Int.reduceAdd, Int.reduceToNat, Int.reduceNeg, Int.reduceNegSucc, ↓vz_seq]; done) | (simp only [go_sem, List.range', reduceIte, Nat.reduceLT, Nat.reduceAdd, Nat.reduceSub, Nat.reduceMul, Nat.reduceEqDiff, reduceCtorEq, Nat.reduceLeDiff, Int.reduceLT, Int.reduceLE, Int.reduceEq, Int.reduceAdd, Int.reduceToNat, Int.reduceNeg, Int.reduceNegSucc, ↓vz_seq]; rfl)) ?_
  simp only [go_sem, List.range', reduceIte, Nat.reduceLT, Nat.reduceAdd, Nat.reduceSub, Nat.reduceMul, Nat.reduceEqDiff, reduceCtorEq, Nat.reduceLeDiff, Int.reduceLT, Int.reduceLE, Int.reduceEq, Int.reduceAdd, Int.reduceToNat, Int.reduceNeg, Int.reduceNegSucc, ↓vz_seq]
  refine brB_dec (fun h1 => ?_) (fun h1 => ?_)
  · simp only [go_sem, List.range', reduceIte, Nat.reduceLT, Nat.reduceAdd, Nat.reduceSub, Nat.reduceMul, Nat.reduceEqDiff, reduceCtorEq, Nat.reduceLeDiff, Int.reduceLT, Int.reduceLE, Int.reduceEq, Int.reduceAdd, Int.reduceToNat, Int.reduceNeg, Int.reduceNegSucc, ↓vz_seq, cmpI, h1]
  · simp only [go_sem, List.range', reduceIte, Nat.reduceLT, Nat.reduceAdd, Nat.reduceSub, Nat.reduceMul, Nat.reduceEqDiff, reduceCtorEq, Nat.reduceLeDiff, Int.reduceLT, Int.reduceLE, Int.reduceEq, Int.reduceAdd, Int.reduceToNat, Int.reduceNeg, Int.reduceNegSucc, ↓vz_seq]
    refine brB_dec (fun h2 => ?_) (fun h2 => ?_)
    · simp only [go_sem, List.range', reduceIte, Nat.reduceLT, Nat.reduceAdd, Nat.reduceSub, Nat.reduceMul, Nat.reduceEqDiff, reduceCtorEq, Nat.reduceLeDiff, Int.reduceLT, Int.reduceLE, Int.reduceEq, Int.reduceAdd, Int.reduceToNat, Int.reduceNeg, Int.reduceNegSucc, ↓vz_seq, cmpI, h1, h2]
    · simp only [go_sem, List.range', reduceIte, Nat.reduceLT, Nat.reduceAdd, Nat.reduceSub, Nat.reduceMul, Nat.reduceEqDiff, reduceCtorEq, Nat.reduceLeDiff, Int.reduceLT, Int.reduceLE, Int.reduceEq, Int.reduceAdd, Int.reduceToNat, Int.reduceNeg, Int.reduceNegSucc, ↓vz_seq, cmpI, h1, h2]
def orL : List Int → Int
  | [] => 0
  | x :: r => if x ≠ 0 then x else orL r
def E48 (l : List Int) (i : Nat) : AEnv :=
  (((E0.put 3 (.pv (.int .i64 0))).put 6 (.pv (.sl (l.map fun x => [.int .i64 x])))).put 7 (.pv (.int .i64 (l.length : Int)))).put 8 (.pv (.int .i64 (i : Int)))
theorem or_pure (l : List Int) : Pure Tryd.prog 48 [.sl (l.map fun x => [.int .i64 x])] (.int .i64 (orL l)) := by
  refine Pure.fit (ent_of Tryd.func48 rfl (by rfl)) fun hfit => ?_
  simp only [fitL, fitP, List.length_map] at hfit
  have hlen : l.length ≤ 140737488355328 := hfit.1.1
  refine pure_of Tryd.func48 rfl (by rfl) Tryd.ntmps48 Tryd.results48 (by simp) ?_
  generalize hr : orL l = res
  simp only [go_sem, List.range', reduceIte, Nat.reduceLT, Nat.reduceAdd, Nat.reduceSub, Nat.reduceMul, Nat.reduceEqDiff, reduceCtorEq, Nat.reduceLeDiff, Int.reduceLT, Int.reduceLE, Int.reduceEq, Int.reduceAdd, Int.reduceToNat, Int.reduceNeg, Int.reduceNegSucc, ↓vz_seq]
  refine vz_loop (fun i => l.length - i) (fun i e h => orL (l.drop i) = res ∧ i ≤ l.length ∧ e = E48 l i ∧ h = []) 0 ?_ ?_
  · refine ⟨E48 l 0, [], Wk.perm [] (by simp) rfl trivial ?_, by simpa using hr, Nat.zero_le _, rfl, rfl⟩
    unfold E48
    repeat (first | exact okE_E0 | refine okE_put (by first | trivial | (simp [AV.lt, AV.ltL]; done)) (by first | (simp only [go_sem, List.range', reduceIte, Nat.reduceLT, Nat.reduceAdd, Nat.reduceSub, Nat.reduceMul, Nat.reduceEqDiff, reduceCtorEq, Nat.reduceLeDiff, Int.reduceLT, Int.reduceLE, Int.reduceEq, Int.reduceAdd, Int.reduceToNat, Int.reduceNeg, Int.reduceNegSucc, ↓vz_seq]; done) | (simp only [go_sem, List.range', reduceIte, Nat.reduceLT, Nat.reduceAdd, Nat.reduceSub, Nat.reduceMul, Nat.reduceEqDiff, reduceCtorEq, Nat.reduceLeDiff, Int.reduceLT, Int.reduceLE, Int.reduceEq, Int.reduceAdd, Int.reduceToNat, Int.reduceNeg, Int.reduceNegSucc, ↓vz_seq]; rfl)) ?_)
  · rintro i _ _ ⟨hRi, hi, rfl, rfl⟩
    simp only [go_sem, List.range', reduceIte, Nat.reduceLT, Nat.reduceAdd, Nat.reduceSub, Nat.reduceMul, Nat.reduceEqDiff, reduceCtorEq, Nat.reduceLeDiff, Int.reduceLT, Int.reduceLE, Int.reduceEq, Int.reduceAdd, Int.reduceToNat, Int.reduceNeg, Int.reduceNegSucc, ↓vz_seq, E48]
    refine brB_dec (fun hlt => ?_) (fun hge => ?_)
    · have hlt' : i < l.length := by omega
      have hx : l[i]? = some l[i] := List.getElem?_eq_getElem hlt'
      rw [List.drop_eq_getElem_cons hlt', orL] at hRi
      simp only [go_sem, List.range', reduceIte, Nat.reduceLT, Nat.reduceAdd, Nat.reduceSub, Nat.reduceMul, Nat.reduceEqDiff, reduceCtorEq, Nat.reduceLeDiff, Int.reduceLT, Int.reduceLE, Int.reduceEq, Int.reduceAdd, Int.reduceToNat, Int.reduceNeg, Int.reduceNegSucc, ↓vz_seq, hx, hlt, Int.natCast_nonneg]
      refine brB_decN (fun h1 => ?_) (fun h1 => ?_)
      · rw [if_pos h1] at hRi
        simp only [go_sem, List.range', reduceIte, Nat.reduceLT, Nat.reduceAdd, Nat.reduceSub, Nat.reduceMul, Nat.reduceEqDiff, reduceCtorEq, Nat.reduceLeDiff, Int.reduceLT, Int.reduceLE, Int.reduceEq, Int.reduceAdd, Int.reduceToNat, Int.reduceNeg, Int.reduceNegSucc, ↓vz_seq, hRi]
      · rw [if_neg (by simpa using h1)] at hRi
        simp only [go_sem, List.range', reduceIte, Nat.reduceLT, Nat.reduceAdd, Nat.reduceSub, Nat.reduceMul, Nat.reduceEqDiff, reduceCtorEq, Nat.reduceLeDiff, Int.reduceLT, Int.reduceLE, Int.reduceEq, Int.reduceAdd, Int.reduceToNat, Int.reduceNeg, Int.reduceNegSucc, ↓vz_seq]
        rw [wrap_i64 (by omega)]
        refine ⟨i + 1, by omega, E48 l (i + 1), [], Wk.perm [] (by simp) rfl trivial ?_, hRi, hlt', rfl, rfl⟩
        unfold E48
        repeat (first | exact okE_E0 | refine okE_put (by first | trivial | (simp [AV.lt, AV.ltL]; done)) (by first | (simp only [go_sem, List.range', reduceIte, Nat.reduceLT, Nat.reduceAdd, Nat.reduceSub, Nat.reduceMul, Nat.reduceEqDiff, reduceCtorEq, Nat.reduceLeDiff, Int.reduceLT, Int.reduceLE, Int.reduceEq, Int.reduceAdd, Int.reduceToNat, Int.reduceNeg, Int.reduceNegSucc, ↓vz_seq]; done) | (simp only [go_sem, List.range', reduceIte, Nat.reduceLT, Nat.reduceAdd, Nat.reduceSub, Nat.reduceMul, Nat.reduceEqDiff, reduceCtorEq, Nat.reduceLeDiff, Int.reduceLT, Int.reduceLE, Int.reduceEq, Int.reduceAdd, Int.reduceToNat, Int.reduceNeg, Int.reduceNegSucc, ↓vz_seq]; rfl)) ?_)
    · simp only [go_sem, List.range', reduceIte, Nat.reduceLT, Nat.reduceAdd, Nat.reduceSub, Nat.reduceMul, Nat.reduceEqDiff, reduceCtorEq, Nat.reduceLeDiff, Int.reduceLT, Int.reduceLE, Int.reduceEq, Int.reduceAdd, Int.reduceToNat, Int.reduceNeg, Int.reduceNegSucc, ↓vz_seq]
      rw [List.drop_of_length_le (by omega), orL] at hRi
      exact hRi
/-- A name's entry. -/
def entP (x : ByteArray × Int) : List PV := [.str x.1, .int .i64 x.2, .str x.1, .int .i64 0, .sl []]
theorem cmpN_pure (a b : ByteArray × Int) : Pure Tryd.prog 47 [.agg (entP a), .agg (entP b)] (.int .i64 (cmpN a b)) := by
  refine pure_of Tryd.func47 rfl (by rfl) Tryd.ntmps47 Tryd.results47 (by simp) ?_
  simp only [go_sem, List.range', reduceIte, Nat.reduceLT, Nat.reduceAdd, Nat.reduceSub, Nat.reduceMul, Nat.reduceEqDiff, reduceCtorEq, Nat.reduceLeDiff, Int.reduceLT, Int.reduceLE, Int.reduceEq, Int.reduceAdd, Int.reduceToNat, Int.reduceNeg, Int.reduceNegSucc, ↓vz_seq, entP]
  refine vz_draw 12 mixed (by kernel_rfl) ?_
  simp only [go_sem, List.range', reduceIte, Nat.reduceLT, Nat.reduceAdd, Nat.reduceSub, Nat.reduceMul, Nat.reduceEqDiff, reduceCtorEq, Nat.reduceLeDiff, Int.reduceLT, Int.reduceLE, Int.reduceEq, Int.reduceAdd, Int.reduceToNat, Int.reduceNeg, Int.reduceNegSucc, ↓vz_seq]
  refine PCallZ.of (cmpS_pure a.1 b.1) ?_
  simp only [go_sem, List.range', reduceIte, Nat.reduceLT, Nat.reduceAdd, Nat.reduceSub, Nat.reduceMul, Nat.reduceEqDiff, reduceCtorEq, Nat.reduceLeDiff, Int.reduceLT, Int.reduceLE, Int.reduceEq, Int.reduceAdd, Int.reduceToNat, Int.reduceNeg, Int.reduceNegSucc, ↓vz_seq]
  refine PCallZ.of (cmpI_pure a.2 b.2) ?_
  simp only [go_sem, List.range', reduceIte, Nat.reduceLT, Nat.reduceAdd, Nat.reduceSub, Nat.reduceMul, Nat.reduceEqDiff, reduceCtorEq, Nat.reduceLeDiff, Int.reduceLT, Int.reduceLE, Int.reduceEq, Int.reduceAdd, Int.reduceToNat, Int.reduceNeg, Int.reduceNegSucc, ↓vz_seq]
  refine Pure.call (or_pure [cmpS a.1 b.1, cmpI a.2 b.2]) (by first | (simp only [go_sem, List.range', reduceIte, Nat.reduceLT, Nat.reduceAdd, Nat.reduceSub, Nat.reduceMul, Nat.reduceEqDiff, reduceCtorEq, Nat.reduceLeDiff, Int.reduceLT, Int.reduceLE, Int.reduceEq, Int.reduceAdd, Int.reduceToNat, Int.reduceNeg, Int.reduceNegSucc, ↓vz_seq]; done) | (simp only [go_sem, List.range', reduceIte, Nat.reduceLT, Nat.reduceAdd, Nat.reduceSub, Nat.reduceMul, Nat.reduceEqDiff, reduceCtorEq, Nat.reduceLeDiff, Int.reduceLT, Int.reduceLE, Int.reduceEq, Int.reduceAdd, Int.reduceToNat, Int.reduceNeg, Int.reduceNegSucc, ↓vz_seq]; rfl)) ?_
  simp only [go_sem, List.range', reduceIte, Nat.reduceLT, Nat.reduceAdd, Nat.reduceSub, Nat.reduceMul, Nat.reduceEqDiff, reduceCtorEq, Nat.reduceLeDiff, Int.reduceLT, Int.reduceLE, Int.reduceEq, Int.reduceAdd, Int.reduceToNat, Int.reduceNeg, Int.reduceNegSucc, ↓vz_seq]
  by_cases hz : cmpI a.2 b.2 = 0 <;> simp [orL, cmpN, hz]
theorem cmpS_zero {a b : ByteArray} : cmpS a b = 0 ↔ a = b := by
  unfold cmpS
  constructor
  · intro h; split at h
    · omega
    · split at h
      · assumption
      · omega
  · rintro rfl
    rw [if_neg (by unfold ltS; rw [bl_irrefl]; simp), if_pos rfl]
theorem cmpI_zero {a b : Int} : cmpI a b = 0 ↔ a = b := by
  unfold cmpI
  split
  · omega
  · split <;> omega
theorem cmpN_zero {a b : ByteArray × Int} : cmpN a b = 0 ↔ a = b := by
  obtain ⟨a1, a2⟩ := a
  obtain ⟨b1, b2⟩ := b
  unfold cmpN
  by_cases h : cmpS a1 b1 = 0
  · rw [if_neg (by simpa using h), cmpI_zero]
    rw [cmpS_zero] at h
    subst h
    simp
  · rw [if_pos h]
    rw [cmpS_zero] at h
    simp only [cmpS_zero, Prod.mk.injEq, h, false_and]
def ltN (a b : ByteArray × Int) : Prop := ltS a.1 b.1 = true ∨ (a.1 = b.1 ∧ a.2 < b.2)
theorem cmpN_neg {a b : ByteArray × Int} : cmpN a b < 0 ↔ ltN a b := by
  obtain ⟨a1, a2⟩ := a
  obtain ⟨b1, b2⟩ := b
  unfold cmpN ltN
  by_cases h : cmpS a1 b1 = 0
  · rw [if_neg (by simpa using h)]
    rw [cmpS_zero] at h
    subst h
    have : ltS a1 a1 = false := bl_irrefl _
    simp only [this, Bool.false_eq_true, false_or, true_and]
    unfold cmpI
    split
    · omega
    · split <;> omega
  · rw [if_pos h]
    have h' := h
    rw [cmpS_zero] at h'
    simp only [h', false_and, or_false]
    unfold cmpS at *
    split at h
    · rename_i q; simp [q]
    · rename_i q; rw [if_neg h']; simp [q]
theorem ltN_irrefl (a : ByteArray × Int) : ¬ ltN a a := by
  unfold ltN ltS
  rw [bl_irrefl]
  simp
theorem ltN_trans {a b c : ByteArray × Int} (h : ltN a b) (k : ltN b c) : ltN a c := by
  obtain ⟨a1, a2⟩ := a
  obtain ⟨b1, b2⟩ := b
  obtain ⟨c1, c2⟩ := c
  unfold ltN at *
  simp only at *
  rcases h with h | ⟨rfl, h⟩ <;> rcases k with k | ⟨rfl, k⟩
  · exact .inl (bl_trans h k)
  · exact .inl h
  · exact .inl k
  · exact .inr ⟨rfl, by omega⟩
theorem ltN_tri {a b : ByteArray × Int} (h : ¬ ltN a b) (hn : a ≠ b) : ltN b a := by
  obtain ⟨a1, a2⟩ := a
  obtain ⟨b1, b2⟩ := b
  unfold ltN at *
  simp only [not_or, not_and, Bool.not_eq_true] at *
  by_cases e : a1 = b1
  · subst e
    refine .inr ⟨rfl, ?_⟩
    have := h.2 rfl
    have : a2 ≠ b2 := fun q => hn (by rw [q])
    omega
  · exact .inl (bl_tri h.1 (fun q => e (toList_inj' q)))
theorem same_ref (a b : ByteArray × Int) : RefK Tryd.prog 53 [.pv (.agg (entP a)), .pv (.agg (entP b)), .ptr 0 0] [.box [.pv (.fn 47)]]
    (fun r hs => r = .ret (.pv (.bool (decide (a = b)))) ∧ hs = [.box [.pv (.fn 47)]]) := by
  refine refK_of Tryd.func53 rfl (by rfl) Tryd.ntmps53 Tryd.results53 (by simp) rfl ?_
  simp only [go_sem, List.range', reduceIte, Nat.reduceLT, Nat.reduceAdd, Nat.reduceSub, Nat.reduceMul, Nat.reduceEqDiff, reduceCtorEq, Nat.reduceLeDiff, Int.reduceLT, Int.reduceLE, Int.reduceEq, Int.reduceAdd, Int.reduceToNat, Int.reduceNeg, Int.reduceNegSucc, ↓vz_seq, entP]
  refine Pure.call (cmpN_pure a b) (by first | (simp only [go_sem, List.range', reduceIte, Nat.reduceLT, Nat.reduceAdd, Nat.reduceSub, Nat.reduceMul, Nat.reduceEqDiff, reduceCtorEq, Nat.reduceLeDiff, Int.reduceLT, Int.reduceLE, Int.reduceEq, Int.reduceAdd, Int.reduceToNat, Int.reduceNeg, Int.reduceNegSucc, ↓vz_seq]; done) | (simp only [go_sem, List.range', reduceIte, Nat.reduceLT, Nat.reduceAdd, Nat.reduceSub, Nat.reduceMul, Nat.reduceEqDiff, reduceCtorEq, Nat.reduceLeDiff, Int.reduceLT, Int.reduceLE, Int.reduceEq, Int.reduceAdd, Int.reduceToNat, Int.reduceNeg, Int.reduceNegSucc, ↓vz_seq]; rfl)) ?_
  simp only [go_sem, List.range', reduceIte, Nat.reduceLT, Nat.reduceAdd, Nat.reduceSub, Nat.reduceMul, Nat.reduceEqDiff, reduceCtorEq, Nat.reduceLeDiff, Int.reduceLT, Int.reduceLE, Int.reduceEq, Int.reduceAdd, Int.reduceToNat, Int.reduceNeg, Int.reduceNegSucc, ↓vz_seq]
  simp [cmpN_zero]
end Go.Proofs.YtahamnipffckhaaDoor
