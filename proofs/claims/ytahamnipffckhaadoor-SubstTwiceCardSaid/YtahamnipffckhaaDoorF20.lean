import Derived.Test.YtahamnipffckhaaDoorG1
set_option linter.unusedVariables false
set_option linter.unusedSimpArgs false
namespace Go.Proofs.YtahamnipffckhaaDoor
open Go Go.RowKit
/-! SubstFresh. -/
def E7a (us : List Tm) (nm : ByteArray) (s i : Nat) : AEnv := ((((E0.put 0 (.pv (.sl (us.map Tm.cells)))).put 1 (.pv (.str nm))).put 5 (.pv (.bool true))).put 6 (.pv (.int .i64 (s : Int)))).put 7 (.pv (.int .i64 (i : Int)))
def E7b (us : List Tm) (fr : ByteArray) (s i : Nat) : AEnv := ((((E0.put 0 (.pv (.sl (us.map Tm.cells)))).put 5 (.pv (.bool true))).put 6 (.pv (.int .i64 (s : Int)))).put 9 (.pv (.str fr))).put 13 (.pv (.int .i64 (i : Int)))
theorem cells_all (ts : List Tm) : ((ts.map Tm.cells).all fun c => c.length == 4) = true := by
  rw [List.all_eq_true]
  intro c hc
  obtain ⟨t, _, rfl⟩ := List.mem_map.1 hc
  rw [Tm.cells_eq]; rfl
theorem sumN_le : ∀ us : List Tm, sumN us ≤ us.length * 2000
  | [] => by simp [sumN]
  | u :: us => by
    have := sumN_le us
    have := namesOf_len u
    simp only [sumN, List.map_cons, List.sum_cons, List.length_cons] at *
    omega
set_option maxHeartbeats 1000000 in
theorem SubstFresh_pure (ts : List Tm) (nm : ByteArray) : Pure Tryd.prog 7 [.sl (ts.map Tm.cells), .str nm] (.bool true) := by
  refine Pure.fit (ent_of Tryd.func7 rfl (by rfl)) fun hfit => ?_
  simp only [fitL, fitP, List.length_map] at hfit
  have hlen : ts.length ≤ 140737488355328 := hfit.1.1
  clear hfit
  refine pure_of Tryd.func7 rfl (by rfl) Tryd.ntmps7 Tryd.results7 (by simp) ?_
  simp only [go_sem, List.range', reduceIte, Nat.reduceLT, Nat.reduceAdd, Nat.reduceSub, Nat.reduceMul, Nat.reduceEqDiff, reduceCtorEq, Nat.reduceLeDiff, Int.reduceLT, Int.reduceLE, Int.reduceEq, Int.reduceAdd, Int.reduceToNat, Int.reduceNeg, Int.reduceNegSucc, ↓vz_seq]
  refine Pure.call shown_pure (by first | (simp only [go_sem, List.range', reduceIte, Nat.reduceLT, Nat.reduceAdd, Nat.reduceSub, Nat.reduceMul, Nat.reduceEqDiff, reduceCtorEq, Nat.reduceLeDiff, Int.reduceLT, Int.reduceLE, Int.reduceEq, Int.reduceAdd, Int.reduceToNat, Int.reduceNeg, Int.reduceNegSucc, ↓vz_seq]; done) | (simp only [go_sem, List.range', reduceIte, Nat.reduceLT, Nat.reduceAdd, Nat.reduceSub, Nat.reduceMul, Nat.reduceEqDiff, reduceCtorEq, Nat.reduceLeDiff, Int.reduceLT, Int.reduceLE, Int.reduceEq, Int.reduceAdd, Int.reduceToNat, Int.reduceNeg, Int.reduceNegSucc, ↓vz_seq]; rfl)) ?_
  have hmin : (if 10 < (ts.length : Int) then (10 : Int) else (ts.length : Int)) = ((min ts.length 10 : Nat) : Int) := by split <;> omega
  have hm1 : ((min ts.length 10 : Nat) : Int) ≤ (ts.length : Int) := by omega
  obtain ⟨us, hus⟩ : ∃ us, us = ts.take (min ts.length 10) := ⟨_, rfl⟩
  have hus2 : (ts.map Tm.cells).take (min ts.length 10) = us.map Tm.cells := by rw [hus, List.map_take]
  have hul : us.length ≤ 10 := by rw [hus, List.length_take]; omega
  have hall := cells_all ts
  simp only [go_sem, List.range', reduceIte, Nat.reduceLT, Nat.reduceAdd, Nat.reduceSub, Nat.reduceMul, Nat.reduceEqDiff, reduceCtorEq, Nat.reduceLeDiff, Int.reduceLT, Int.reduceLE, Int.reduceEq, Int.reduceAdd, Int.reduceToNat, Int.reduceNeg, Int.reduceNegSucc, ↓vz_seq, List.length_map, hmin, hm1, Int.ofNat_zero, Int.natCast_nonneg, hall, hus2, List.drop_zero, Int.toNat_natCast]
  refine vz_loop (fun i => us.length - i) (fun i e h => i ≤ us.length ∧ e = E7a us nm (sumN (us.take i)) i ∧ h = []) 0 ?_ ?_
  · refine ⟨E7a us nm (sumN []) 0, [], Wk.perm [] (by simp) rfl trivial ?_, Nat.zero_le _, rfl, rfl⟩
    unfold E7a sumN
    repeat (first | exact okE_E0 | refine okE_put (by first | trivial | (simp [AV.lt, AV.ltL]; done)) (by first | (simp only [go_sem, List.range', reduceIte, Nat.reduceLT, Nat.reduceAdd, Nat.reduceSub, Nat.reduceMul, Nat.reduceEqDiff, reduceCtorEq, Nat.reduceLeDiff, Int.reduceLT, Int.reduceLE, Int.reduceEq, Int.reduceAdd, Int.reduceToNat, Int.reduceNeg, Int.reduceNegSucc, ↓vz_seq, List.map_nil, List.sum_nil, Int.ofNat_zero]; done) | (simp only [go_sem, List.range', reduceIte, Nat.reduceLT, Nat.reduceAdd, Nat.reduceSub, Nat.reduceMul, Nat.reduceEqDiff, reduceCtorEq, Nat.reduceLeDiff, Int.reduceLT, Int.reduceLE, Int.reduceEq, Int.reduceAdd, Int.reduceToNat, Int.reduceNeg, Int.reduceNegSucc, ↓vz_seq, List.map_nil, List.sum_nil, Int.ofNat_zero]; rfl)) ?_)
  · rintro i _ _ ⟨hi, rfl, rfl⟩
    simp only [go_sem, List.range', reduceIte, Nat.reduceLT, Nat.reduceAdd, Nat.reduceSub, Nat.reduceMul, Nat.reduceEqDiff, reduceCtorEq, Nat.reduceLeDiff, Int.reduceLT, Int.reduceLE, Int.reduceEq, Int.reduceAdd, Int.reduceToNat, Int.reduceNeg, Int.reduceNegSucc, ↓vz_seq, E7a, List.length_map]
    refine brB_dec (fun hlt => ?_) (fun hge => ?_)
    · have hlt' : i < us.length := by omega
      have hx : us[i]? = some us[i] := List.getElem?_eq_getElem hlt'
      simp only [go_sem, List.range', reduceIte, Nat.reduceLT, Nat.reduceAdd, Nat.reduceSub, Nat.reduceMul, Nat.reduceEqDiff, reduceCtorEq, Nat.reduceLeDiff, Int.reduceLT, Int.reduceLE, Int.reduceEq, Int.reduceAdd, Int.reduceToNat, Int.reduceNeg, Int.reduceNegSucc, ↓vz_seq, hx, hlt, Int.natCast_nonneg, List.length_map, Tm.cells_eq]
      refine Pure.call (small_pure us[i]) (by first | (simp only [go_sem, List.range', reduceIte, Nat.reduceLT, Nat.reduceAdd, Nat.reduceSub, Nat.reduceMul, Nat.reduceEqDiff, reduceCtorEq, Nat.reduceLeDiff, Int.reduceLT, Int.reduceLE, Int.reduceEq, Int.reduceAdd, Int.reduceToNat, Int.reduceNeg, Int.reduceNegSucc, ↓vz_seq]; done) | (simp only [go_sem, List.range', reduceIte, Nat.reduceLT, Nat.reduceAdd, Nat.reduceSub, Nat.reduceMul, Nat.reduceEqDiff, reduceCtorEq, Nat.reduceLeDiff, Int.reduceLT, Int.reduceLE, Int.reduceEq, Int.reduceAdd, Int.reduceToNat, Int.reduceNeg, Int.reduceNegSucc, ↓vz_seq]; rfl)) ?_
      simp only [go_sem, List.range', reduceIte, Nat.reduceLT, Nat.reduceAdd, Nat.reduceSub, Nat.reduceMul, Nat.reduceEqDiff, reduceCtorEq, Nat.reduceLeDiff, Int.reduceLT, Int.reduceLE, Int.reduceEq, Int.reduceAdd, Int.reduceToNat, Int.reduceNeg, Int.reduceNegSucc, ↓vz_seq]
      refine brB_bool (fun h1 => ?_) (fun h1 => ?_)
      · simp only [go_sem, List.range', reduceIte, Nat.reduceLT, Nat.reduceAdd, Nat.reduceSub, Nat.reduceMul, Nat.reduceEqDiff, reduceCtorEq, Nat.reduceLeDiff, Int.reduceLT, Int.reduceLE, Int.reduceEq, Int.reduceAdd, Int.reduceToNat, Int.reduceNeg, Int.reduceNegSucc, ↓vz_seq]
      · simp only [go_sem, List.range', reduceIte, Nat.reduceLT, Nat.reduceAdd, Nat.reduceSub, Nat.reduceMul, Nat.reduceEqDiff, reduceCtorEq, Nat.reduceLeDiff, Int.reduceLT, Int.reduceLE, Int.reduceEq, Int.reduceAdd, Int.reduceToNat, Int.reduceNeg, Int.reduceNegSucc, ↓vz_seq, hx, hlt, Int.natCast_nonneg, List.length_map, Tm.cells_eq]
        refine Pure.call (Names_pure us[i]) (by first | (simp only [go_sem, List.range', reduceIte, Nat.reduceLT, Nat.reduceAdd, Nat.reduceSub, Nat.reduceMul, Nat.reduceEqDiff, reduceCtorEq, Nat.reduceLeDiff, Int.reduceLT, Int.reduceLE, Int.reduceEq, Int.reduceAdd, Int.reduceToNat, Int.reduceNeg, Int.reduceNegSucc, ↓vz_seq]; done) | (simp only [go_sem, List.range', reduceIte, Nat.reduceLT, Nat.reduceAdd, Nat.reduceSub, Nat.reduceMul, Nat.reduceEqDiff, reduceCtorEq, Nat.reduceLeDiff, Int.reduceLT, Int.reduceLE, Int.reduceEq, Int.reduceAdd, Int.reduceToNat, Int.reduceNeg, Int.reduceNegSucc, ↓vz_seq]; rfl)) ?_
        have hs1 : sumN (us.take (i + 1)) = sumN (us.take i) + (namesOf us[i]).length := by
          unfold sumN
          rw [List.take_succ_eq_append_getElem hlt', List.map_append, List.sum_append, List.map_cons, List.map_nil, List.sum_cons, List.sum_nil, Nat.add_zero]
        have hs2 := sumN_le (us.take i)
        have hs3 : (us.take i).length ≤ 10 := by rw [List.length_take]; omega
        have hs4 := namesOf_len us[i]
        simp only [go_sem, List.range', reduceIte, Nat.reduceLT, Nat.reduceAdd, Nat.reduceSub, Nat.reduceMul, Nat.reduceEqDiff, reduceCtorEq, Nat.reduceLeDiff, Int.reduceLT, Int.reduceLE, Int.reduceEq, Int.reduceAdd, Int.reduceToNat, Int.reduceNeg, Int.reduceNegSucc, ↓vz_seq, List.length_map]
        rw [wrap_i64 (by omega), wrap_i64 (by omega)]
        refine ⟨i + 1, by omega, E7a us nm (sumN (us.take (i + 1))) (i + 1), [], Wk.perm [] (by simp) rfl trivial ?_, hlt', rfl, rfl⟩
        rw [hs1]
        unfold E7a
        repeat (first | exact okE_E0 | refine okE_put (by first | trivial | (simp [AV.lt, AV.ltL]; done)) (by first | (simp only [go_sem, List.range', reduceIte, Nat.reduceLT, Nat.reduceAdd, Nat.reduceSub, Nat.reduceMul, Nat.reduceEqDiff, reduceCtorEq, Nat.reduceLeDiff, Int.reduceLT, Int.reduceLE, Int.reduceEq, Int.reduceAdd, Int.reduceToNat, Int.reduceNeg, Int.reduceNegSucc, ↓vz_seq, Int.natCast_add]; done) | (simp only [go_sem, List.range', reduceIte, Nat.reduceLT, Nat.reduceAdd, Nat.reduceSub, Nat.reduceMul, Nat.reduceEqDiff, reduceCtorEq, Nat.reduceLeDiff, Int.reduceLT, Int.reduceLE, Int.reduceEq, Int.reduceAdd, Int.reduceToNat, Int.reduceNeg, Int.reduceNegSucc, ↓vz_seq, Int.natCast_add]; rfl)) ?_)
    · have hie : i = us.length := by omega
      subst hie
      rw [List.take_length]
      simp only [go_sem, List.range', reduceIte, Nat.reduceLT, Nat.reduceAdd, Nat.reduceSub, Nat.reduceMul, Nat.reduceEqDiff, reduceCtorEq, Nat.reduceLeDiff, Int.reduceLT, Int.reduceLE, Int.reduceEq, Int.reduceAdd, Int.reduceToNat, Int.reduceNeg, Int.reduceNegSucc, ↓vz_seq]
      refine Pure.call (Fresh_pure us nm) (by first | (simp only [go_sem, List.range', reduceIte, Nat.reduceLT, Nat.reduceAdd, Nat.reduceSub, Nat.reduceMul, Nat.reduceEqDiff, reduceCtorEq, Nat.reduceLeDiff, Int.reduceLT, Int.reduceLE, Int.reduceEq, Int.reduceAdd, Int.reduceToNat, Int.reduceNeg, Int.reduceNegSucc, ↓vz_seq]; done) | (simp only [go_sem, List.range', reduceIte, Nat.reduceLT, Nat.reduceAdd, Nat.reduceSub, Nat.reduceMul, Nat.reduceEqDiff, reduceCtorEq, Nat.reduceLeDiff, Int.reduceLT, Int.reduceLE, Int.reduceEq, Int.reduceAdd, Int.reduceToNat, Int.reduceNeg, Int.reduceNegSucc, ↓vz_seq]; rfl)) ?_
      simp only [go_sem, List.range', reduceIte, Nat.reduceLT, Nat.reduceAdd, Nat.reduceSub, Nat.reduceMul, Nat.reduceEqDiff, reduceCtorEq, Nat.reduceLeDiff, Int.reduceLT, Int.reduceLE, Int.reduceEq, Int.reduceAdd, Int.reduceToNat, Int.reduceNeg, Int.reduceNegSucc, ↓vz_seq]
      refine Pure.call (Name_pure nm) (by first | (simp only [go_sem, List.range', reduceIte, Nat.reduceLT, Nat.reduceAdd, Nat.reduceSub, Nat.reduceMul, Nat.reduceEqDiff, reduceCtorEq, Nat.reduceLeDiff, Int.reduceLT, Int.reduceLE, Int.reduceEq, Int.reduceAdd, Int.reduceToNat, Int.reduceNeg, Int.reduceNegSucc, ↓vz_seq]; done) | (simp only [go_sem, List.range', reduceIte, Nat.reduceLT, Nat.reduceAdd, Nat.reduceSub, Nat.reduceMul, Nat.reduceEqDiff, reduceCtorEq, Nat.reduceLeDiff, Int.reduceLT, Int.reduceLE, Int.reduceEq, Int.reduceAdd, Int.reduceToNat, Int.reduceNeg, Int.reduceNegSucc, ↓vz_seq]; rfl)) ?_
      simp only [go_sem, List.range', reduceIte, Nat.reduceLT, Nat.reduceAdd, Nat.reduceSub, Nat.reduceMul, Nat.reduceEqDiff, reduceCtorEq, Nat.reduceLeDiff, Int.reduceLT, Int.reduceLE, Int.reduceEq, Int.reduceAdd, Int.reduceToNat, Int.reduceNeg, Int.reduceNegSucc]
      refine vz_cut (fun e h => e 0 = .pv (.sl (us.map Tm.cells)) ∧ e 5 = .pv (.bool true) ∧ e 6 = .pv (.int .i64 (sumN us : Int)) ∧ e 9 = .pv (.str (freshT us nm)) ∧ e 10 = .pv (.str (isX nm)) ∧ h = []) ?_ ?_
      · unfold isX
        cases nameB nm with
        | true =>
          simp only [go_sem, List.range', reduceIte, Nat.reduceLT, Nat.reduceAdd, Nat.reduceSub, Nat.reduceMul, Nat.reduceEqDiff, reduceCtorEq, Nat.reduceLeDiff, Int.reduceLT, Int.reduceLE, Int.reduceEq, Int.reduceAdd, Int.reduceToNat, Int.reduceNeg, Int.reduceNegSucc, ↓vz_seq]
        | false =>
          simp only [go_sem, List.range', reduceIte, Nat.reduceLT, Nat.reduceAdd, Nat.reduceSub, Nat.reduceMul, Nat.reduceEqDiff, reduceCtorEq, Nat.reduceLeDiff, Int.reduceLT, Int.reduceLE, Int.reduceEq, Int.reduceAdd, Int.reduceToNat, Int.reduceNeg, Int.reduceNegSucc, ↓vz_seq]
      · rintro e _ ⟨e0, e5, e6, e9, e10, rfl⟩
        have hn2 := isX_name nm
        have h1 := fresh_name us nm
        have h2 := fresh_size us nm
        have h3 := fresh_head us nm
        have h4 := fresh_free (ts := us) (nm := nm)
        generalize freshT us nm = fr at *
        generalize isX nm = nx at *
        have hmn : (if 13 < (nx.size : Int) then (13 : Int) else (nx.size : Int)) = ((min nx.size 13 : Nat) : Int) := by split <;> omega
        simp only [go_sem, List.range', reduceIte, Nat.reduceLT, Nat.reduceAdd, Nat.reduceSub, Nat.reduceMul, Nat.reduceEqDiff, reduceCtorEq, Nat.reduceLeDiff, Int.reduceLT, Int.reduceLE, Int.reduceEq, Int.reduceAdd, Int.reduceToNat, Int.reduceNeg, Int.reduceNegSucc, ↓vz_seq, e0, e5, e6, e9, e10, hmn]
        refine vz_draw 16 mixed (by kernel_rfl) ?_
        simp only [go_sem, List.range', reduceIte, Nat.reduceLT, Nat.reduceAdd, Nat.reduceSub, Nat.reduceMul, Nat.reduceEqDiff, reduceCtorEq, Nat.reduceLeDiff, Int.reduceLT, Int.reduceLE, Int.reduceEq, Int.reduceAdd, Int.reduceToNat, Int.reduceNeg, Int.reduceNegSucc, ↓vz_seq, e0, e5, e6, e9, e10]
        refine PCallZ.of (Name_pure fr) ?_
        rw [h1]
        have hlf : ((fr.size : Int) < ((min nx.size 13 : Nat) : Int)) = False := eq_false (by omega)
        have hl1 : ((min nx.size 13 : Nat) : Int) ≤ (fr.size : Int) := by omega
        have hl2 : ((min nx.size 13 : Nat) : Int) ≤ (nx.size : Int) := by omega
        simp only [go_sem, List.range', reduceIte, Nat.reduceLT, Nat.reduceAdd, Nat.reduceSub, Nat.reduceMul, Nat.reduceEqDiff, reduceCtorEq, Nat.reduceLeDiff, Int.reduceLT, Int.reduceLE, Int.reduceEq, Int.reduceAdd, Int.reduceToNat, Int.reduceNeg, Int.reduceNegSucc, ↓vz_seq, e0, e5, e6, e9, e10, Bool.not_true, hlf, decide_false, hl1, hl2, Int.ofNat_zero, Int.natCast_nonneg, Tryd.underlying9, Int.toNat_natCast, h3, decide_true]
        refine vz_loop (fun i => us.length - i) (fun i e h => i ≤ us.length ∧ e = E7b us fr (sumN us) i ∧ h = []) 0 ?_ ?_
        · refine ⟨E7b us fr (sumN us) 0, [], Wk.perm [] (by simp) rfl trivial ?_, Nat.zero_le _, rfl, rfl⟩
          unfold E7b
          repeat (first | exact okE_E0 | refine okE_put (by first | trivial | (simp [AV.lt, AV.ltL]; done)) (by first | (simp only [go_sem, List.range', reduceIte, Nat.reduceLT, Nat.reduceAdd, Nat.reduceSub, Nat.reduceMul, Nat.reduceEqDiff, reduceCtorEq, Nat.reduceLeDiff, Int.reduceLT, Int.reduceLE, Int.reduceEq, Int.reduceAdd, Int.reduceToNat, Int.reduceNeg, Int.reduceNegSucc, ↓vz_seq, e0, e5, e6, e9]; done) | (simp only [go_sem, List.range', reduceIte, Nat.reduceLT, Nat.reduceAdd, Nat.reduceSub, Nat.reduceMul, Nat.reduceEqDiff, reduceCtorEq, Nat.reduceLeDiff, Int.reduceLT, Int.reduceLE, Int.reduceEq, Int.reduceAdd, Int.reduceToNat, Int.reduceNeg, Int.reduceNegSucc, ↓vz_seq, e0, e5, e6, e9]; rfl)) ?_)
        · rintro i _ _ ⟨hi, rfl, rfl⟩
          simp only [go_sem, List.range', reduceIte, Nat.reduceLT, Nat.reduceAdd, Nat.reduceSub, Nat.reduceMul, Nat.reduceEqDiff, reduceCtorEq, Nat.reduceLeDiff, Int.reduceLT, Int.reduceLE, Int.reduceEq, Int.reduceAdd, Int.reduceToNat, Int.reduceNeg, Int.reduceNegSucc, ↓vz_seq, E7b, List.length_map]
          refine brG_dec (fun hlt => ?_) (fun hge => ?_)
          · simp only [go_sem, List.range', reduceIte, Nat.reduceLT, Nat.reduceAdd, Nat.reduceSub, Nat.reduceMul, Nat.reduceEqDiff, reduceCtorEq, Nat.reduceLeDiff, Int.reduceLT, Int.reduceLE, Int.reduceEq, Int.reduceAdd, Int.reduceToNat, Int.reduceNeg, Int.reduceNegSucc, ↓vz_seq, List.length_map, decide_eq_true hlt]
            by_cases hs : (sumN us : Int) < 100
            · simp only [go_sem, List.range', reduceIte, Nat.reduceLT, Nat.reduceAdd, Nat.reduceSub, Nat.reduceMul, Nat.reduceEqDiff, reduceCtorEq, Nat.reduceLeDiff, Int.reduceLT, Int.reduceLE, Int.reduceEq, Int.reduceAdd, Int.reduceToNat, Int.reduceNeg, Int.reduceNegSucc, ↓vz_seq, decide_eq_true hlt, decide_eq_true hs]
              have hlt' : i < us.length := by omega
              have hx : us[i]? = some us[i] := List.getElem?_eq_getElem hlt'
              simp only [go_sem, List.range', reduceIte, Nat.reduceLT, Nat.reduceAdd, Nat.reduceSub, Nat.reduceMul, Nat.reduceEqDiff, reduceCtorEq, Nat.reduceLeDiff, Int.reduceLT, Int.reduceLE, Int.reduceEq, Int.reduceAdd, Int.reduceToNat, Int.reduceNeg, Int.reduceNegSucc, ↓vz_seq, hx, hlt, Int.natCast_nonneg, List.length_map, Tm.cells_eq]
              refine Pure.call (Free_pure us[i] fr) (by first | (simp only [go_sem, List.range', reduceIte, Nat.reduceLT, Nat.reduceAdd, Nat.reduceSub, Nat.reduceMul, Nat.reduceEqDiff, reduceCtorEq, Nat.reduceLeDiff, Int.reduceLT, Int.reduceLE, Int.reduceEq, Int.reduceAdd, Int.reduceToNat, Int.reduceNeg, Int.reduceNegSucc, ↓vz_seq]; done) | (simp only [go_sem, List.range', reduceIte, Nat.reduceLT, Nat.reduceAdd, Nat.reduceSub, Nat.reduceMul, Nat.reduceEqDiff, reduceCtorEq, Nat.reduceLeDiff, Int.reduceLT, Int.reduceLE, Int.reduceEq, Int.reduceAdd, Int.reduceToNat, Int.reduceNeg, Int.reduceNegSucc, ↓vz_seq]; rfl)) ?_
              rw [h4 (by omega) us[i] (List.getElem_mem hlt')]
              simp only [go_sem, List.range', reduceIte, Nat.reduceLT, Nat.reduceAdd, Nat.reduceSub, Nat.reduceMul, Nat.reduceEqDiff, reduceCtorEq, Nat.reduceLeDiff, Int.reduceLT, Int.reduceLE, Int.reduceEq, Int.reduceAdd, Int.reduceToNat, Int.reduceNeg, Int.reduceNegSucc, ↓vz_seq]
              rw [wrap_i64 (by omega)]
              refine ⟨i + 1, by omega, E7b us fr (sumN us) (i + 1), [], Wk.perm [] (by simp) rfl trivial ?_, hlt', rfl, rfl⟩
              unfold E7b
              repeat (first | exact okE_E0 | refine okE_put (by first | trivial | (simp [AV.lt, AV.ltL]; done)) (by first | (simp only [go_sem, List.range', reduceIte, Nat.reduceLT, Nat.reduceAdd, Nat.reduceSub, Nat.reduceMul, Nat.reduceEqDiff, reduceCtorEq, Nat.reduceLeDiff, Int.reduceLT, Int.reduceLE, Int.reduceEq, Int.reduceAdd, Int.reduceToNat, Int.reduceNeg, Int.reduceNegSucc, ↓vz_seq]; done) | (simp only [go_sem, List.range', reduceIte, Nat.reduceLT, Nat.reduceAdd, Nat.reduceSub, Nat.reduceMul, Nat.reduceEqDiff, reduceCtorEq, Nat.reduceLeDiff, Int.reduceLT, Int.reduceLE, Int.reduceEq, Int.reduceAdd, Int.reduceToNat, Int.reduceNeg, Int.reduceNegSucc, ↓vz_seq]; rfl)) ?_)
            · simp only [go_sem, List.range', reduceIte, Nat.reduceLT, Nat.reduceAdd, Nat.reduceSub, Nat.reduceMul, Nat.reduceEqDiff, reduceCtorEq, Nat.reduceLeDiff, Int.reduceLT, Int.reduceLE, Int.reduceEq, Int.reduceAdd, Int.reduceToNat, Int.reduceNeg, Int.reduceNegSucc, ↓vz_seq, decide_eq_true hlt, decide_eq_false hs]
          · simp only [go_sem, List.range', reduceIte, Nat.reduceLT, Nat.reduceAdd, Nat.reduceSub, Nat.reduceMul, Nat.reduceEqDiff, reduceCtorEq, Nat.reduceLeDiff, Int.reduceLT, Int.reduceLE, Int.reduceEq, Int.reduceAdd, Int.reduceToNat, Int.reduceNeg, Int.reduceNegSucc, ↓vz_seq, decide_eq_false hge]
end Go.Proofs.YtahamnipffckhaaDoor
