import Derived.Test.YtahamnipffckhaaDoorF12
set_option linter.unusedVariables false
set_option linter.unusedSimpArgs false
namespace Go.Proofs.YtahamnipffckhaaDoor
open Go Go.RowKit
/-! term.Names. -/
mutual
def nmT : Tm → List (ByteArray × Int)
  | .mk op name n a => (if name = ⟨#[]⟩ then [] else [(name, op)]) ++ nmL a
def nmL : List Tm → List (ByteArray × Int)
  | [] => []
  | x :: r => nmT x ++ nmL r
end
theorem nmT_eq (t : Tm) : nmT t = (if t.name = ⟨#[]⟩ then [] else [(t.name, t.op)]) ++ nmL t.a := by cases t; simp only [nmT, Tm.name, Tm.op, Tm.a]; rfl
mutual
theorem nmT_len : ∀ t : Tm, (nmT t).length ≤ t.size
  | .mk op name n a => by
    have := nmL_len a
    simp only [nmT, Tm.size, List.length_append]
    split <;> simp <;> omega
theorem nmL_len : ∀ a : List Tm, (nmL a).length ≤ Tm.sizeL a
  | [] => by simp [nmL]
  | x :: r => by
    have := nmT_len x
    have := nmL_len r
    simp only [nmL, Tm.sizeL, List.length_append]
    omega
end
theorem Tm.size_lt {t x : Tm} (h : x ∈ t.a) : x.size < t.size := by
  rw [Tm.size_eq t]
  have : ∀ a : List Tm, x ∈ a → x.size ≤ Tm.sizeL a := fun a => by
    induction a with
    | nil => intro h; cases h
    | cons y r ih =>
      intro h
      simp only [Tm.sizeL]
      rcases List.mem_cons.1 h with h | h
      · subst h; omega
      · have := ih h; omega
  have := this t.a h
  omega
@[go_sem] abbrev HN (es : List (ByteArray × Int)) : AHeap := [.box [.osl 2 es.length], .box [.fn 46 [.ptr 0 0, .ptr 1 0]], .arr 52 5 (es.map entP)]
def E46 (t : Tm) (i : Nat) : AEnv :=
  ((((E0.put 1 (.ptr 0 0)).put 2 (.ptr 1 0)).put 21 (.pv (.sl (t.a.map Tm.cells)))).put 22 (.pv (.int .i64 (t.a.length : Int)))).put 23 (.pv (.int .i64 (i : Int)))
set_option maxHeartbeats 1000000 in
theorem add_ref : ∀ (k : Nat) (t : Tm) (es : List (ByteArray × Int)), t.depth ≤ k → es.length + t.size ≤ 100000 →
    FnK Tryd.prog 46 [.pv t.pv, .ptr 0 0, .ptr 1 0] (HN es) 2 (fun r h' => r = .ret (.tup []) ∧ h' = HN (es ++ nmT t))
  | 0, t, es, hk, _ => by rw [Tm.depth_eq] at hk; omega
  | k + 1, t, es, hk, hsz => by
    refine FnK.fit (ent_of Tryd.func46 rfl (by rfl)) fun hfit => ?_
    simp only [fitAL, fitA, fitL, fitP, List.length_map] at hfit
    have hlen : t.a.length ≤ 140737488355328 := hfit.1.2.2.2.1.1
    refine fnKp_of Tryd.func46 rfl (by rfl) Tryd.ntmps46 Tryd.results46 (by simp) (by simp) ?_
    have hn := nmT_eq t
    have hsz1 := Tm.size_eq t
    generalize nmT t = res at hn ⊢
    simp only [go_sem, List.range', reduceIte, Nat.reduceLT, Nat.reduceAdd, Nat.reduceSub, Nat.reduceMul, Nat.reduceEqDiff, reduceCtorEq, Nat.reduceLeDiff, Int.reduceLT, Int.reduceLE, Int.reduceEq, Int.reduceAdd, Int.reduceToNat, Int.reduceNeg, Int.reduceNegSucc, ↓vz_seq]
    refine brB_decN (fun h1 => ?_) (fun h1 => ?_)
    · rw [if_neg h1] at hn
      have hb1 : ((es.length + 1) * 72 ≤ 140737488355328) = True := eq_true (by omega)
      have hb2 : (es.length + 1 ≤ 140737488355328) = True := eq_true (by omega)
      simp only [go_sem, List.range', reduceIte, Nat.reduceLT, Nat.reduceAdd, Nat.reduceSub, Nat.reduceMul, Nat.reduceEqDiff, reduceCtorEq, Nat.reduceLeDiff, Int.reduceLT, Int.reduceLE, Int.reduceEq, Int.reduceAdd, Int.reduceToNat, Int.reduceNeg, Int.reduceNegSucc, ↓vz_seq, hb1, hb2]
      refine vz_loop (fun i => t.a.length - i) (fun i e h => ∃ es1, es ++ res = es1 ++ nmL (t.a.drop i) ∧ es1.length + Tm.sizeL (t.a.drop i) ≤ es.length + t.size ∧ i ≤ t.a.length ∧ e = E46 t i ∧ h = HN es1) 0 ?_ ?_
      · refine ⟨E46 t 0, HN (es ++ [(t.name, t.op)]), Wk.perm [0, 1, 5] (by simp) rfl (by simp only [go_sem, List.range', reduceIte, Nat.reduceLT, Nat.reduceAdd, Nat.reduceSub, Nat.reduceMul, Nat.reduceEqDiff, reduceCtorEq, Nat.reduceLeDiff, Int.reduceLT, Int.reduceLE, Int.reduceEq, Int.reduceAdd, Int.reduceToNat, Int.reduceNeg, Int.reduceNegSucc, ↓vz_seq, okH, AObj.lt, AV.lt, AV.ltL, List.map_append, entP]) ?_, es ++ [(t.name, t.op)], by rw [hn]; simp, by simp; omega, Nat.zero_le _, rfl, rfl⟩
        unfold E46
        repeat (first | exact okE_E0 | refine okE_put (by first | trivial | (simp [AV.lt, AV.ltL]; done)) (by first | (simp only [go_sem, List.range', reduceIte, Nat.reduceLT, Nat.reduceAdd, Nat.reduceSub, Nat.reduceMul, Nat.reduceEqDiff, reduceCtorEq, Nat.reduceLeDiff, Int.reduceLT, Int.reduceLE, Int.reduceEq, Int.reduceAdd, Int.reduceToNat, Int.reduceNeg, Int.reduceNegSucc, ↓vz_seq]; done) | (simp only [go_sem, List.range', reduceIte, Nat.reduceLT, Nat.reduceAdd, Nat.reduceSub, Nat.reduceMul, Nat.reduceEqDiff, reduceCtorEq, Nat.reduceLeDiff, Int.reduceLT, Int.reduceLE, Int.reduceEq, Int.reduceAdd, Int.reduceToNat, Int.reduceNeg, Int.reduceNegSucc, ↓vz_seq]; rfl)) ?_)
      · rintro i _ _ ⟨es1, he1, hz1, hi, rfl, rfl⟩
        simp only [go_sem, List.range', reduceIte, Nat.reduceLT, Nat.reduceAdd, Nat.reduceSub, Nat.reduceMul, Nat.reduceEqDiff, reduceCtorEq, Nat.reduceLeDiff, Int.reduceLT, Int.reduceLE, Int.reduceEq, Int.reduceAdd, Int.reduceToNat, Int.reduceNeg, Int.reduceNegSucc, ↓vz_seq, E46]
        refine brB_dec (fun hlt => ?_) (fun hge => ?_)
        · have hlt' : i < t.a.length := by omega
          have hx : t.a[i]? = some t.a[i] := List.getElem?_eq_getElem hlt'
          have hxd := Tm.depth_lt (List.getElem_mem hlt')
          rw [List.drop_eq_getElem_cons hlt', Tm.sizeL] at hz1
          rw [List.drop_eq_getElem_cons hlt', nmL] at he1
          have hxl := nmT_len t.a[i]
          simp only [go_sem, List.range', reduceIte, Nat.reduceLT, Nat.reduceAdd, Nat.reduceSub, Nat.reduceMul, Nat.reduceEqDiff, reduceCtorEq, Nat.reduceLeDiff, Int.reduceLT, Int.reduceLE, Int.reduceEq, Int.reduceAdd, Int.reduceToNat, Int.reduceNeg, Int.reduceNegSucc, ↓vz_seq, hx, hlt, Int.natCast_nonneg, Tm.cells_eq]
          refine FnK.callN (add_ref k t.a[i] es1 (by omega) (by omega)) [0, 1, 2] (by simp) (by simp) (by simp only [go_sem, List.range', reduceIte, Nat.reduceLT, Nat.reduceAdd, Nat.reduceSub, Nat.reduceMul, Nat.reduceEqDiff, reduceCtorEq, Nat.reduceLeDiff, Int.reduceLT, Int.reduceLE, Int.reduceEq, Int.reduceAdd, Int.reduceToNat, Int.reduceNeg, Int.reduceNegSucc, ↓vz_seq, okH, AObj.lt, AV.lt, AV.ltL]) (by simp [CR.lt, oltL, AObj.lt, AV.lt, AV.ltL]) (by first | (simp only [go_sem, List.range', reduceIte, Nat.reduceLT, Nat.reduceAdd, Nat.reduceSub, Nat.reduceMul, Nat.reduceEqDiff, reduceCtorEq, Nat.reduceLeDiff, Int.reduceLT, Int.reduceLE, Int.reduceEq, Int.reduceAdd, Int.reduceToNat, Int.reduceNeg, Int.reduceNegSucc, ↓vz_seq]; done) | (simp only [go_sem, List.range', reduceIte, Nat.reduceLT, Nat.reduceAdd, Nat.reduceSub, Nat.reduceMul, Nat.reduceEqDiff, reduceCtorEq, Nat.reduceLeDiff, Int.reduceLT, Int.reduceLE, Int.reduceEq, Int.reduceAdd, Int.reduceToNat, Int.reduceNeg, Int.reduceNegSucc, ↓vz_seq]; rfl)) ?_
          rintro r h'' ⟨rfl, rfl⟩
          simp only [go_sem, List.range', reduceIte, Nat.reduceLT, Nat.reduceAdd, Nat.reduceSub, Nat.reduceMul, Nat.reduceEqDiff, reduceCtorEq, Nat.reduceLeDiff, Int.reduceLT, Int.reduceLE, Int.reduceEq, Int.reduceAdd, Int.reduceToNat, Int.reduceNeg, Int.reduceNegSucc, ↓vz_seq]
          rw [wrap_i64 (by omega)]
          refine ⟨i + 1, by omega, E46 t (i + 1), HN (es1 ++ nmT t.a[i]), Wk.perm [0, 1, 4] (by simp) rfl (by simp only [go_sem, List.range', reduceIte, Nat.reduceLT, Nat.reduceAdd, Nat.reduceSub, Nat.reduceMul, Nat.reduceEqDiff, reduceCtorEq, Nat.reduceLeDiff, Int.reduceLT, Int.reduceLE, Int.reduceEq, Int.reduceAdd, Int.reduceToNat, Int.reduceNeg, Int.reduceNegSucc, ↓vz_seq, okH, AObj.lt, AV.lt, AV.ltL, List.map_append]) ?_, es1 ++ nmT t.a[i], by rw [he1]; simp, by simp; omega, hlt', rfl, rfl⟩
          unfold E46
          repeat (first | exact okE_E0 | refine okE_put (by first | trivial | (simp [AV.lt, AV.ltL]; done)) (by first | (simp only [go_sem, List.range', reduceIte, Nat.reduceLT, Nat.reduceAdd, Nat.reduceSub, Nat.reduceMul, Nat.reduceEqDiff, reduceCtorEq, Nat.reduceLeDiff, Int.reduceLT, Int.reduceLE, Int.reduceEq, Int.reduceAdd, Int.reduceToNat, Int.reduceNeg, Int.reduceNegSucc, ↓vz_seq]; done) | (simp only [go_sem, List.range', reduceIte, Nat.reduceLT, Nat.reduceAdd, Nat.reduceSub, Nat.reduceMul, Nat.reduceEqDiff, reduceCtorEq, Nat.reduceLeDiff, Int.reduceLT, Int.reduceLE, Int.reduceEq, Int.reduceAdd, Int.reduceToNat, Int.reduceNeg, Int.reduceNegSucc, ↓vz_seq]; rfl)) ?_)
        · simp only [go_sem, List.range', reduceIte, Nat.reduceLT, Nat.reduceAdd, Nat.reduceSub, Nat.reduceMul, Nat.reduceEqDiff, reduceCtorEq, Nat.reduceLeDiff, Int.reduceLT, Int.reduceLE, Int.reduceEq, Int.reduceAdd, Int.reduceToNat, Int.reduceNeg, Int.reduceNegSucc, ↓vz_seq]
          rw [List.drop_of_length_le (by omega), nmL, List.append_nil] at he1
          refine ⟨[0, 1, 2], _, .tup [], by simp, rfl, ?_, rfl, trivial, rfl, rfl⟩
          simp only [go_sem, List.range', reduceIte, Nat.reduceLT, Nat.reduceAdd, Nat.reduceSub, Nat.reduceMul, Nat.reduceEqDiff, reduceCtorEq, Nat.reduceLeDiff, Int.reduceLT, Int.reduceLE, Int.reduceEq, Int.reduceAdd, Int.reduceToNat, Int.reduceNeg, Int.reduceNegSucc, ↓vz_seq, okH, AObj.lt, AV.lt, AV.ltL, ← List.length_append, ← List.map_append, he1]
    · rw [if_pos h1] at hn
      simp only [go_sem, List.range', reduceIte, Nat.reduceLT, Nat.reduceAdd, Nat.reduceSub, Nat.reduceMul, Nat.reduceEqDiff, reduceCtorEq, Nat.reduceLeDiff, Int.reduceLT, Int.reduceLE, Int.reduceEq, Int.reduceAdd, Int.reduceToNat, Int.reduceNeg, Int.reduceNegSucc, ↓vz_seq]
      refine vz_loop (fun i => t.a.length - i) (fun i e h => ∃ es1, es ++ res = es1 ++ nmL (t.a.drop i) ∧ es1.length + Tm.sizeL (t.a.drop i) ≤ es.length + t.size ∧ i ≤ t.a.length ∧ e = E46 t i ∧ h = HN es1) 0 ?_ ?_
      · refine ⟨E46 t 0, HN (es), Wk.perm [0, 1, 2] (by simp) rfl (by simp only [go_sem, List.range', reduceIte, Nat.reduceLT, Nat.reduceAdd, Nat.reduceSub, Nat.reduceMul, Nat.reduceEqDiff, reduceCtorEq, Nat.reduceLeDiff, Int.reduceLT, Int.reduceLE, Int.reduceEq, Int.reduceAdd, Int.reduceToNat, Int.reduceNeg, Int.reduceNegSucc, ↓vz_seq, okH, AObj.lt, AV.lt, AV.ltL]) ?_, es, by rw [hn]; simp, by simp; omega, Nat.zero_le _, rfl, rfl⟩
        unfold E46
        repeat (first | exact okE_E0 | refine okE_put (by first | trivial | (simp [AV.lt, AV.ltL]; done)) (by first | (simp only [go_sem, List.range', reduceIte, Nat.reduceLT, Nat.reduceAdd, Nat.reduceSub, Nat.reduceMul, Nat.reduceEqDiff, reduceCtorEq, Nat.reduceLeDiff, Int.reduceLT, Int.reduceLE, Int.reduceEq, Int.reduceAdd, Int.reduceToNat, Int.reduceNeg, Int.reduceNegSucc, ↓vz_seq]; done) | (simp only [go_sem, List.range', reduceIte, Nat.reduceLT, Nat.reduceAdd, Nat.reduceSub, Nat.reduceMul, Nat.reduceEqDiff, reduceCtorEq, Nat.reduceLeDiff, Int.reduceLT, Int.reduceLE, Int.reduceEq, Int.reduceAdd, Int.reduceToNat, Int.reduceNeg, Int.reduceNegSucc, ↓vz_seq]; rfl)) ?_)
      · rintro i _ _ ⟨es1, he1, hz1, hi, rfl, rfl⟩
        simp only [go_sem, List.range', reduceIte, Nat.reduceLT, Nat.reduceAdd, Nat.reduceSub, Nat.reduceMul, Nat.reduceEqDiff, reduceCtorEq, Nat.reduceLeDiff, Int.reduceLT, Int.reduceLE, Int.reduceEq, Int.reduceAdd, Int.reduceToNat, Int.reduceNeg, Int.reduceNegSucc, ↓vz_seq, E46]
        refine brB_dec (fun hlt => ?_) (fun hge => ?_)
        · have hlt' : i < t.a.length := by omega
          have hx : t.a[i]? = some t.a[i] := List.getElem?_eq_getElem hlt'
          have hxd := Tm.depth_lt (List.getElem_mem hlt')
          rw [List.drop_eq_getElem_cons hlt', Tm.sizeL] at hz1
          rw [List.drop_eq_getElem_cons hlt', nmL] at he1
          have hxl := nmT_len t.a[i]
          simp only [go_sem, List.range', reduceIte, Nat.reduceLT, Nat.reduceAdd, Nat.reduceSub, Nat.reduceMul, Nat.reduceEqDiff, reduceCtorEq, Nat.reduceLeDiff, Int.reduceLT, Int.reduceLE, Int.reduceEq, Int.reduceAdd, Int.reduceToNat, Int.reduceNeg, Int.reduceNegSucc, ↓vz_seq, hx, hlt, Int.natCast_nonneg, Tm.cells_eq]
          refine FnK.callN (add_ref k t.a[i] es1 (by omega) (by omega)) [0, 1, 2] (by simp) (by simp) (by simp only [go_sem, List.range', reduceIte, Nat.reduceLT, Nat.reduceAdd, Nat.reduceSub, Nat.reduceMul, Nat.reduceEqDiff, reduceCtorEq, Nat.reduceLeDiff, Int.reduceLT, Int.reduceLE, Int.reduceEq, Int.reduceAdd, Int.reduceToNat, Int.reduceNeg, Int.reduceNegSucc, ↓vz_seq, okH, AObj.lt, AV.lt, AV.ltL]) (by simp [CR.lt, oltL, AObj.lt, AV.lt, AV.ltL]) (by first | (simp only [go_sem, List.range', reduceIte, Nat.reduceLT, Nat.reduceAdd, Nat.reduceSub, Nat.reduceMul, Nat.reduceEqDiff, reduceCtorEq, Nat.reduceLeDiff, Int.reduceLT, Int.reduceLE, Int.reduceEq, Int.reduceAdd, Int.reduceToNat, Int.reduceNeg, Int.reduceNegSucc, ↓vz_seq]; done) | (simp only [go_sem, List.range', reduceIte, Nat.reduceLT, Nat.reduceAdd, Nat.reduceSub, Nat.reduceMul, Nat.reduceEqDiff, reduceCtorEq, Nat.reduceLeDiff, Int.reduceLT, Int.reduceLE, Int.reduceEq, Int.reduceAdd, Int.reduceToNat, Int.reduceNeg, Int.reduceNegSucc, ↓vz_seq]; rfl)) ?_
          rintro r h'' ⟨rfl, rfl⟩
          simp only [go_sem, List.range', reduceIte, Nat.reduceLT, Nat.reduceAdd, Nat.reduceSub, Nat.reduceMul, Nat.reduceEqDiff, reduceCtorEq, Nat.reduceLeDiff, Int.reduceLT, Int.reduceLE, Int.reduceEq, Int.reduceAdd, Int.reduceToNat, Int.reduceNeg, Int.reduceNegSucc, ↓vz_seq]
          rw [wrap_i64 (by omega)]
          refine ⟨i + 1, by omega, E46 t (i + 1), HN (es1 ++ nmT t.a[i]), Wk.perm [0, 1, 4] (by simp) rfl (by simp only [go_sem, List.range', reduceIte, Nat.reduceLT, Nat.reduceAdd, Nat.reduceSub, Nat.reduceMul, Nat.reduceEqDiff, reduceCtorEq, Nat.reduceLeDiff, Int.reduceLT, Int.reduceLE, Int.reduceEq, Int.reduceAdd, Int.reduceToNat, Int.reduceNeg, Int.reduceNegSucc, ↓vz_seq, okH, AObj.lt, AV.lt, AV.ltL, List.map_append]) ?_, es1 ++ nmT t.a[i], by rw [he1]; simp, by simp; omega, hlt', rfl, rfl⟩
          unfold E46
          repeat (first | exact okE_E0 | refine okE_put (by first | trivial | (simp [AV.lt, AV.ltL]; done)) (by first | (simp only [go_sem, List.range', reduceIte, Nat.reduceLT, Nat.reduceAdd, Nat.reduceSub, Nat.reduceMul, Nat.reduceEqDiff, reduceCtorEq, Nat.reduceLeDiff, Int.reduceLT, Int.reduceLE, Int.reduceEq, Int.reduceAdd, Int.reduceToNat, Int.reduceNeg, Int.reduceNegSucc, ↓vz_seq]; done) | (simp only [go_sem, List.range', reduceIte, Nat.reduceLT, Nat.reduceAdd, Nat.reduceSub, Nat.reduceMul, Nat.reduceEqDiff, reduceCtorEq, Nat.reduceLeDiff, Int.reduceLT, Int.reduceLE, Int.reduceEq, Int.reduceAdd, Int.reduceToNat, Int.reduceNeg, Int.reduceNegSucc, ↓vz_seq]; rfl)) ?_)
        · simp only [go_sem, List.range', reduceIte, Nat.reduceLT, Nat.reduceAdd, Nat.reduceSub, Nat.reduceMul, Nat.reduceEqDiff, reduceCtorEq, Nat.reduceLeDiff, Int.reduceLT, Int.reduceLE, Int.reduceEq, Int.reduceAdd, Int.reduceToNat, Int.reduceNeg, Int.reduceNegSucc, ↓vz_seq]
          rw [List.drop_of_length_le (by omega), nmL, List.append_nil] at he1
          refine ⟨[0, 1, 2], _, .tup [], by simp, rfl, ?_, rfl, trivial, rfl, rfl⟩
          simp only [go_sem, List.range', reduceIte, Nat.reduceLT, Nat.reduceAdd, Nat.reduceSub, Nat.reduceMul, Nat.reduceEqDiff, reduceCtorEq, Nat.reduceLeDiff, Int.reduceLT, Int.reduceLE, Int.reduceEq, Int.reduceAdd, Int.reduceToNat, Int.reduceNeg, Int.reduceNegSucc, ↓vz_seq, okH, AObj.lt, AV.lt, AV.ltL, ← List.length_append, ← List.map_append, he1]
end Go.Proofs.YtahamnipffckhaaDoor
