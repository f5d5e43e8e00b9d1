import Derived.Test.YtahamnipffckhaaDoorF11
set_option linter.unusedVariables false
set_option linter.unusedSimpArgs false
namespace Go.Proofs.YtahamnipffckhaaDoor
open Go Go.RowKit
/-! slices.CompactFunc of names. -/
def cp : List (ByteArray × Int) → List (ByteArray × Int) → List (ByteArray × Int)
  | acc, [] => acc
  | acc, x :: r => cp (if acc.getLast? = some x then acc else acc ++ [x]) r
def EC (n k : Nat) : AEnv := ((E0.put 0 (.osl 1 n)).put 1 (.fn 53 [.ptr 0 0])).put 5 (.pv (.int .i64 (k : Int)))
def ED (n i k j : Nat) : AEnv := ((((E0.put 0 (.osl 1 n)).put 1 (.fn 53 [.ptr 0 0])).put 5 (.pv (.int .i64 (k : Int)))).put 6 (.osb 1 5 i (n - i))).put 7 (.pv (.int .i64 (j : Int)))
@[go_sem] abbrev HC (es : List (ByteArray × Int)) : AHeap := [.box [.pv (.fn 47)], .arr 52 5 (es.map entP)]
set_option maxHeartbeats 1000000 in
theorem compact_ref (es : List (ByteArray × Int)) (hlen : es.length ≤ 140737488355328) : RefK Tryd.prog 52 [.osl 1 es.length, .fn 53 [.ptr 0 0]] (HC es)
    (fun r hs => r = .ret (.osl 1 (cp [] es).length) ∧ hs = HC (cp [] es)) := by
  refine refK_of Tryd.func52 rfl (by rfl) Tryd.ntmps52 Tryd.results52 (by simp) rfl ?_
  generalize hcp : cp [] es = res
  unfold HC
  simp only [go_sem, List.range', reduceIte, Nat.reduceLT, Nat.reduceAdd, Nat.reduceSub, Nat.reduceMul, Nat.reduceEqDiff, reduceCtorEq, Nat.reduceLeDiff, Int.reduceLT, Int.reduceLE, Int.reduceEq, Int.reduceAdd, Int.reduceToNat, Int.reduceNeg, Int.reduceNegSucc, ↓vz_seq]
  refine brB_dec (fun h1 => ?_) (fun h1 => ?_)
  · have hr : res = es := by
      rw [← hcp]
      match es, h1 with
      | [], _ => rfl
      | [x], _ => simp [cp]
      | _ :: _ :: _, h => simp at h; omega
    simp only [go_sem, List.range', reduceIte, Nat.reduceLT, Nat.reduceAdd, Nat.reduceSub, Nat.reduceMul, Nat.reduceEqDiff, reduceCtorEq, Nat.reduceLeDiff, Int.reduceLT, Int.reduceLE, Int.reduceEq, Int.reduceAdd, Int.reduceToNat, Int.reduceNeg, Int.reduceNegSucc, ↓vz_seq, hr]
  · simp only [go_sem, List.range', reduceIte, Nat.reduceLT, Nat.reduceAdd, Nat.reduceSub, Nat.reduceMul, Nat.reduceEqDiff, reduceCtorEq, Nat.reduceLeDiff, Int.reduceLT, Int.reduceLE, Int.reduceEq, Int.reduceAdd, Int.reduceToNat, Int.reduceNeg, Int.reduceNegSucc, ↓vz_seq]
    refine vz_loop (fun i => es.length - i) (fun i e h => cp (es.take i) (es.drop i) = res ∧ 1 ≤ i ∧ i ≤ es.length ∧ e = EC es.length i ∧ h = HC es) 1 ?_ ?_
    · refine ⟨EC es.length 1, _, Wk.perm [0, 1] (by simp) rfl (by simp only [go_sem, List.range', reduceIte, Nat.reduceLT, Nat.reduceAdd, Nat.reduceSub, Nat.reduceMul, Nat.reduceEqDiff, reduceCtorEq, Nat.reduceLeDiff, Int.reduceLT, Int.reduceLE, Int.reduceEq, Int.reduceAdd, Int.reduceToNat, Int.reduceNeg, Int.reduceNegSucc, ↓vz_seq, okH, AObj.lt, AV.lt, AV.ltL]) ?_, ?_, Nat.le_refl _, by omega, rfl, rfl⟩
      · unfold EC
        repeat (first | exact okE_E0 | refine okE_put (by first | trivial | (simp [AV.lt, AV.ltL]; done)) (by first | (simp only [go_sem, List.range', reduceIte, Nat.reduceLT, Nat.reduceAdd, Nat.reduceSub, Nat.reduceMul, Nat.reduceEqDiff, reduceCtorEq, Nat.reduceLeDiff, Int.reduceLT, Int.reduceLE, Int.reduceEq, Int.reduceAdd, Int.reduceToNat, Int.reduceNeg, Int.reduceNegSucc, ↓vz_seq]; done) | (simp only [go_sem, List.range', reduceIte, Nat.reduceLT, Nat.reduceAdd, Nat.reduceSub, Nat.reduceMul, Nat.reduceEqDiff, reduceCtorEq, Nat.reduceLeDiff, Int.reduceLT, Int.reduceLE, Int.reduceEq, Int.reduceAdd, Int.reduceToNat, Int.reduceNeg, Int.reduceNegSucc, ↓vz_seq]; rfl)) ?_)
      · rw [← hcp]
        match es, h1 with
        | x :: r, _ => simp [cp]
        | [], h => simp at h
    · rintro i _ _ ⟨hc, hi1, hi, rfl, rfl⟩
      simp only [go_sem, List.range', reduceIte, Nat.reduceLT, Nat.reduceAdd, Nat.reduceSub, Nat.reduceMul, Nat.reduceEqDiff, reduceCtorEq, Nat.reduceLeDiff, Int.reduceLT, Int.reduceLE, Int.reduceEq, Int.reduceAdd, Int.reduceToNat, Int.reduceNeg, Int.reduceNegSucc, ↓vz_seq, EC, HC]
      refine brB_dec (fun hlt => ?_) (fun hge => ?_)
      · have hlt' : i < es.length := by omega
        have hx : es[i]? = some es[i] := List.getElem?_eq_getElem hlt'
        have hy : es[i - 1]? = some es[i - 1] := List.getElem?_eq_getElem (by omega)
        have hw : IntKind.wrap .i64 ((i : Int) - 1) = ((i - 1 : Nat) : Int) := by rw [wrap_i64 (by omega)]; omega
        have hlt1 : ((i - 1 : Nat) : Int) < (es.length : Int) := by omega
        simp only [go_sem, List.range', reduceIte, Nat.reduceLT, Nat.reduceAdd, Nat.reduceSub, Nat.reduceMul, Nat.reduceEqDiff, reduceCtorEq, Nat.reduceLeDiff, Int.reduceLT, Int.reduceLE, Int.reduceEq, Int.reduceAdd, Int.reduceToNat, Int.reduceNeg, Int.reduceNegSucc, ↓vz_seq]
        refine vz_draw 10 mixed (by kernel_rfl) ?_
        simp only [go_sem, List.range', reduceIte, Nat.reduceLT, Nat.reduceAdd, Nat.reduceSub, Nat.reduceMul, Nat.reduceEqDiff, reduceCtorEq, Nat.reduceLeDiff, Int.reduceLT, Int.reduceLE, Int.reduceEq, Int.reduceAdd, Int.reduceToNat, Int.reduceNeg, Int.reduceNegSucc, ↓vz_seq, hx, hy, hw, hlt, hlt1, Int.natCast_nonneg, entP]
        refine RefK.callH (same_ref es[i] es[i - 1]) [0] (by simp) (by simp only [go_sem, List.range', reduceIte, Nat.reduceLT, Nat.reduceAdd, Nat.reduceSub, Nat.reduceMul, Nat.reduceEqDiff, reduceCtorEq, Nat.reduceLeDiff, Int.reduceLT, Int.reduceLE, Int.reduceEq, Int.reduceAdd, Int.reduceToNat, Int.reduceNeg, Int.reduceNegSucc, ↓vz_seq, okH, AObj.lt, AV.lt, AV.ltL]) (by simp [CR.lt, oltL, AObj.lt, AV.lt, AV.ltL]) (by simp only [go_sem, List.range', reduceIte, Nat.reduceLT, Nat.reduceAdd, Nat.reduceSub, Nat.reduceMul, Nat.reduceEqDiff, reduceCtorEq, Nat.reduceLeDiff, Int.reduceLT, Int.reduceLE, Int.reduceEq, Int.reduceAdd, Int.reduceToNat, Int.reduceNeg, Int.reduceNegSucc, ↓vz_seq, entP]) ?_
        rintro r hs ⟨rfl, rfl⟩
        refine ⟨(by simp [CR.lt, oltL, AObj.lt, AV.lt, AV.ltL]), (by simp [CR.lt, oltL, AObj.lt, AV.lt, AV.ltL]), ?_⟩
        have hlast : (es.take i).getLast? = some es[i - 1] := by
          rw [List.getLast?_eq_getElem?, List.length_take, Nat.min_eq_left (by omega), List.getElem?_take_of_lt (by omega)]
          exact hy
        rw [List.drop_eq_getElem_cons hlt', cp, hlast] at hc
        simp only [go_sem, List.range', reduceIte, Nat.reduceLT, Nat.reduceAdd, Nat.reduceSub, Nat.reduceMul, Nat.reduceEqDiff, reduceCtorEq, Nat.reduceLeDiff, Int.reduceLT, Int.reduceLE, Int.reduceEq, Int.reduceAdd, Int.reduceToNat, Int.reduceNeg, Int.reduceNegSucc, ↓vz_seq]
        refine brB_dec (fun heq => ?_) (fun hne => ?_)
        · rw [if_pos (by rw [heq])] at hc
          have hi0 : ((i : Int) = 0) = False := eq_false (by omega)
          have hle : (i : Int) ≤ (es.length : Int) := by omega
          simp only [go_sem, List.range', reduceIte, Nat.reduceLT, Nat.reduceAdd, Nat.reduceSub, Nat.reduceMul, Nat.reduceEqDiff, reduceCtorEq, Nat.reduceLeDiff, Int.reduceLT, Int.reduceLE, Int.reduceEq, Int.reduceAdd, Int.reduceToNat, Int.reduceNeg, Int.reduceNegSucc, ↓vz_seq, hi0, hle, Int.natCast_nonneg, Int.le_refl]
          refine vz_loop (fun j => es.length - j) (fun j e h => ∃ k cur, cur.length = es.length ∧ cp (cur.take k) (es.drop (i + j)) = res ∧ (cur.take k).getLast? = es[i + j - 1]? ∧ cur.drop (i + j - 1) = es.drop (i + j - 1) ∧ 1 ≤ k ∧ k ≤ i + j - 1 ∧ 1 ≤ j ∧ i + j ≤ es.length ∧ e = ED es.length i k j ∧ h = HC cur) 1 ?_ ?_
          · refine ⟨ED es.length i i 1, _, Wk.perm [0, 1] (by simp) rfl (by simp only [go_sem, List.range', reduceIte, Nat.reduceLT, Nat.reduceAdd, Nat.reduceSub, Nat.reduceMul, Nat.reduceEqDiff, reduceCtorEq, Nat.reduceLeDiff, Int.reduceLT, Int.reduceLE, Int.reduceEq, Int.reduceAdd, Int.reduceToNat, Int.reduceNeg, Int.reduceNegSucc, ↓vz_seq, okH, AObj.lt, AV.lt, AV.ltL]) ?_, i, es, rfl, hc, by rw [hlast]; simp [hx, heq], rfl, hi1, by omega, Nat.le_refl _, hlt', rfl, rfl⟩
            unfold ED
            repeat (first | exact okE_E0 | refine okE_put (by first | trivial | (simp [AV.lt, AV.ltL]; done)) (by first | (simp only [go_sem, List.range', reduceIte, Nat.reduceLT, Nat.reduceAdd, Nat.reduceSub, Nat.reduceMul, Nat.reduceEqDiff, reduceCtorEq, Nat.reduceLeDiff, Int.reduceLT, Int.reduceLE, Int.reduceEq, Int.reduceAdd, Int.reduceToNat, Int.reduceNeg, Int.reduceNegSucc, ↓vz_seq]; done) | (simp only [go_sem, List.range', reduceIte, Nat.reduceLT, Nat.reduceAdd, Nat.reduceSub, Nat.reduceMul, Nat.reduceEqDiff, reduceCtorEq, Nat.reduceLeDiff, Int.reduceLT, Int.reduceLE, Int.reduceEq, Int.reduceAdd, Int.reduceToNat, Int.reduceNeg, Int.reduceNegSucc, ↓vz_seq]; rfl)) ?_)
          · rintro j _ _ ⟨k, cur, hcl, hcj, hlj, hdj, hk1, hkj, hj1, hij, rfl, rfl⟩
            have hlast2 : ∀ m, i + j - 1 ≤ m → cur[m]? = es[m]? := by
              intro m hm
              have := congrArg (fun l => l[m - (i + j - 1)]?) hdj
              simp only [List.getElem?_drop] at this
              rwa [show i + j - 1 + (m - (i + j - 1)) = m by omega] at this
            simp only [go_sem, List.range', reduceIte, Nat.reduceLT, Nat.reduceAdd, Nat.reduceSub, Nat.reduceMul, Nat.reduceEqDiff, reduceCtorEq, Nat.reduceLeDiff, Int.reduceLT, Int.reduceLE, Int.reduceEq, Int.reduceAdd, Int.reduceToNat, Int.reduceNeg, Int.reduceNegSucc, ↓vz_seq, ED, HC]
            refine brB_dec (fun hjl => ?_) (fun hjg => ?_)
            · have hjl' : i + j < es.length := by omega
              have hx2 : cur[i + j]? = some es[i + j] := by rw [hlast2 _ (by omega)]; exact List.getElem?_eq_getElem hjl'
              have hy2 : cur[i + (j - 1)]? = some es[i + (j - 1)] := by rw [hlast2 _ (by omega)]; exact List.getElem?_eq_getElem (by omega)
              have hw2 : IntKind.wrap .i64 ((j : Int) - 1) = ((j - 1 : Nat) : Int) := by rw [wrap_i64 (by omega)]; omega
              have hjl1 : ((j - 1 : Nat) : Int) < ((es.length - i : Nat) : Int) := by omega
              have hkl : (k : Int) < (es.length : Int) := by omega
              have hck : cur[k]? = some cur[k] := List.getElem?_eq_getElem (by omega)
              simp only [go_sem, List.range', reduceIte, Nat.reduceLT, Nat.reduceAdd, Nat.reduceSub, Nat.reduceMul, Nat.reduceEqDiff, reduceCtorEq, Nat.reduceLeDiff, Int.reduceLT, Int.reduceLE, Int.reduceEq, Int.reduceAdd, Int.reduceToNat, Int.reduceNeg, Int.reduceNegSucc, ↓vz_seq]
              refine vz_draw 10 mixed (by kernel_rfl) ?_
              simp only [go_sem, List.range', reduceIte, Nat.reduceLT, Nat.reduceAdd, Nat.reduceSub, Nat.reduceMul, Nat.reduceEqDiff, reduceCtorEq, Nat.reduceLeDiff, Int.reduceLT, Int.reduceLE, Int.reduceEq, Int.reduceAdd, Int.reduceToNat, Int.reduceNeg, Int.reduceNegSucc, ↓vz_seq, hx2, hy2, hw2, hjl, hjl1, Int.natCast_nonneg, entP]
              refine RefK.callH (same_ref es[i + j] es[i + (j - 1)]) [0] (by simp) (by simp only [go_sem, List.range', reduceIte, Nat.reduceLT, Nat.reduceAdd, Nat.reduceSub, Nat.reduceMul, Nat.reduceEqDiff, reduceCtorEq, Nat.reduceLeDiff, Int.reduceLT, Int.reduceLE, Int.reduceEq, Int.reduceAdd, Int.reduceToNat, Int.reduceNeg, Int.reduceNegSucc, ↓vz_seq, okH, AObj.lt, AV.lt, AV.ltL]) (by simp [CR.lt, oltL, AObj.lt, AV.lt, AV.ltL]) (by simp only [go_sem, List.range', reduceIte, Nat.reduceLT, Nat.reduceAdd, Nat.reduceSub, Nat.reduceMul, Nat.reduceEqDiff, reduceCtorEq, Nat.reduceLeDiff, Int.reduceLT, Int.reduceLE, Int.reduceEq, Int.reduceAdd, Int.reduceToNat, Int.reduceNeg, Int.reduceNegSucc, ↓vz_seq, entP]) ?_
              rintro r hs ⟨rfl, rfl⟩
              refine ⟨(by simp [CR.lt, oltL, AObj.lt, AV.lt, AV.ltL]), (by simp [CR.lt, oltL, AObj.lt, AV.lt, AV.ltL]), ?_⟩
              rw [List.drop_eq_getElem_cons hjl', cp, hlj, show i + j - 1 = i + (j - 1) by omega, List.getElem?_eq_getElem (by omega)] at hcj
              simp only [go_sem, List.range', reduceIte, Nat.reduceLT, Nat.reduceAdd, Nat.reduceSub, Nat.reduceMul, Nat.reduceEqDiff, reduceCtorEq, Nat.reduceLeDiff, Int.reduceLT, Int.reduceLE, Int.reduceEq, Int.reduceAdd, Int.reduceToNat, Int.reduceNeg, Int.reduceNegSucc, ↓vz_seq]
              refine brB_decN (fun hne2 => ?_) (fun heq2 => ?_)
              · rw [if_neg (fun h => hne2 (Option.some.inj h).symm)] at hcj
                simp only [go_sem, List.range', reduceIte, Nat.reduceLT, Nat.reduceAdd, Nat.reduceSub, Nat.reduceMul, Nat.reduceEqDiff, reduceCtorEq, Nat.reduceLeDiff, Int.reduceLT, Int.reduceLE, Int.reduceEq, Int.reduceAdd, Int.reduceToNat, Int.reduceNeg, Int.reduceNegSucc, ↓vz_seq, hx2, hck, hjl, hkl, Int.natCast_nonneg, entP]
                rw [wrap_i64 (by omega), wrap_i64 (by omega)]
                have hset : (cur.map entP).set k [.str es[i + j].1, .int .i64 es[i + j].2, .str es[i + j].1, .int .i64 0, .sl []] = (cur.set k es[i + j]).map entP := by rw [List.map_set]; rfl
                rw [hset]
                refine ⟨j + 1, by omega, ED es.length i (k + 1) (j + 1), _, Wk.perm [0, 1] (by simp) rfl (by simp only [go_sem, List.range', reduceIte, Nat.reduceLT, Nat.reduceAdd, Nat.reduceSub, Nat.reduceMul, Nat.reduceEqDiff, reduceCtorEq, Nat.reduceLeDiff, Int.reduceLT, Int.reduceLE, Int.reduceEq, Int.reduceAdd, Int.reduceToNat, Int.reduceNeg, Int.reduceNegSucc, ↓vz_seq, okH, AObj.lt, AV.lt, AV.ltL]) ?_, k + 1, cur.set k es[i + j], by simpa using hcl, ?_, ?_, ?_, by omega, by omega, by omega, by omega, rfl, rfl⟩
                · unfold ED
                  repeat (first | exact okE_E0 | refine okE_put (by first | trivial | (simp [AV.lt, AV.ltL]; done)) (by first | (simp only [go_sem, List.range', reduceIte, Nat.reduceLT, Nat.reduceAdd, Nat.reduceSub, Nat.reduceMul, Nat.reduceEqDiff, reduceCtorEq, Nat.reduceLeDiff, Int.reduceLT, Int.reduceLE, Int.reduceEq, Int.reduceAdd, Int.reduceToNat, Int.reduceNeg, Int.reduceNegSucc, ↓vz_seq]; done) | (simp only [go_sem, List.range', reduceIte, Nat.reduceLT, Nat.reduceAdd, Nat.reduceSub, Nat.reduceMul, Nat.reduceEqDiff, reduceCtorEq, Nat.reduceLeDiff, Int.reduceLT, Int.reduceLE, Int.reduceEq, Int.reduceAdd, Int.reduceToNat, Int.reduceNeg, Int.reduceNegSucc, ↓vz_seq]; rfl)) ?_)
                · rw [← hcj, List.take_succ_eq_append_getElem (by simp; omega), List.take_set_of_le (Nat.le_refl _)]
                  simp [Nat.add_assoc]
                · rw [List.take_succ_eq_append_getElem (by simp; omega)]
                  simp
                · rw [List.drop_set_of_lt (by omega)]
                  have := congrArg (List.drop 1) hdj
                  simpa [show i + j - 1 + 1 = i + j by omega, show i + (j + 1) - 1 = i + j by omega] using this
              · rw [if_pos (by rw [heq2])] at hcj
                simp only [go_sem, List.range', reduceIte, Nat.reduceLT, Nat.reduceAdd, Nat.reduceSub, Nat.reduceMul, Nat.reduceEqDiff, reduceCtorEq, Nat.reduceLeDiff, Int.reduceLT, Int.reduceLE, Int.reduceEq, Int.reduceAdd, Int.reduceToNat, Int.reduceNeg, Int.reduceNegSucc, ↓vz_seq]
                rw [wrap_i64 (by omega)]
                refine ⟨j + 1, by omega, ED es.length i k (j + 1), _, Wk.perm [0, 1] (by simp) rfl (by simp only [go_sem, List.range', reduceIte, Nat.reduceLT, Nat.reduceAdd, Nat.reduceSub, Nat.reduceMul, Nat.reduceEqDiff, reduceCtorEq, Nat.reduceLeDiff, Int.reduceLT, Int.reduceLE, Int.reduceEq, Int.reduceAdd, Int.reduceToNat, Int.reduceNeg, Int.reduceNegSucc, ↓vz_seq, okH, AObj.lt, AV.lt, AV.ltL]) ?_, k, cur, hcl, by simpa [Nat.add_assoc] using hcj, ?_, ?_, hk1, by omega, by omega, by omega, rfl, rfl⟩
                · unfold ED
                  repeat (first | exact okE_E0 | refine okE_put (by first | trivial | (simp [AV.lt, AV.ltL]; done)) (by first | (simp only [go_sem, List.range', reduceIte, Nat.reduceLT, Nat.reduceAdd, Nat.reduceSub, Nat.reduceMul, Nat.reduceEqDiff, reduceCtorEq, Nat.reduceLeDiff, Int.reduceLT, Int.reduceLE, Int.reduceEq, Int.reduceAdd, Int.reduceToNat, Int.reduceNeg, Int.reduceNegSucc, ↓vz_seq]; done) | (simp only [go_sem, List.range', reduceIte, Nat.reduceLT, Nat.reduceAdd, Nat.reduceSub, Nat.reduceMul, Nat.reduceEqDiff, reduceCtorEq, Nat.reduceLeDiff, Int.reduceLT, Int.reduceLE, Int.reduceEq, Int.reduceAdd, Int.reduceToNat, Int.reduceNeg, Int.reduceNegSucc, ↓vz_seq]; rfl)) ?_)
                · rw [hlj, show i + j - 1 = i + (j - 1) by omega, show i + (j + 1) - 1 = i + j by omega, List.getElem?_eq_getElem (by omega), List.getElem?_eq_getElem (by omega), heq2]
                · have := congrArg (List.drop 1) hdj
                  simpa [show i + j - 1 + 1 = i + j by omega, show i + (j + 1) - 1 = i + j by omega] using this
            · have hk0 : ((k : Int) = 0) = False := eq_false (by omega)
              have hkl : (k : Int) ≤ (es.length : Int) := by omega
              have hadd : (k + (es.length - k) ≤ cur.length) = True := eq_true (by omega)
              rw [List.drop_of_length_le (by omega), cp] at hcj
              have hres : (cur.map entP).take k = res.map entP := by rw [← List.map_take, hcj]
              have hkr : k = res.length := by rw [← hcj, List.length_take]; omega
              simp only [go_sem, List.range', reduceIte, Nat.reduceLT, Nat.reduceAdd, Nat.reduceSub, Nat.reduceMul, Nat.reduceEqDiff, reduceCtorEq, Nat.reduceLeDiff, Int.reduceLT, Int.reduceLE, Int.reduceEq, Int.reduceAdd, Int.reduceToNat, Int.reduceNeg, Int.reduceNegSucc, ↓vz_seq, hk0, hkl, hadd, hres, Int.natCast_nonneg, Int.le_refl, Int.ofNat_zero]

              rw [hkr]
        · rw [if_neg (fun h => hne (Option.some.inj h).symm)] at hc
          simp only [go_sem, List.range', reduceIte, Nat.reduceLT, Nat.reduceAdd, Nat.reduceSub, Nat.reduceMul, Nat.reduceEqDiff, reduceCtorEq, Nat.reduceLeDiff, Int.reduceLT, Int.reduceLE, Int.reduceEq, Int.reduceAdd, Int.reduceToNat, Int.reduceNeg, Int.reduceNegSucc, ↓vz_seq]
          rw [wrap_i64 (by omega)]
          refine ⟨i + 1, by omega, EC es.length (i + 1), _, Wk.perm [0, 1] (by simp) rfl (by simp only [go_sem, List.range', reduceIte, Nat.reduceLT, Nat.reduceAdd, Nat.reduceSub, Nat.reduceMul, Nat.reduceEqDiff, reduceCtorEq, Nat.reduceLeDiff, Int.reduceLT, Int.reduceLE, Int.reduceEq, Int.reduceAdd, Int.reduceToNat, Int.reduceNeg, Int.reduceNegSucc, ↓vz_seq, okH, AObj.lt, AV.lt, AV.ltL]) ?_, ?_, by omega, hlt', rfl, rfl⟩
          · unfold EC
            repeat (first | exact okE_E0 | refine okE_put (by first | trivial | (simp [AV.lt, AV.ltL]; done)) (by first | (simp only [go_sem, List.range', reduceIte, Nat.reduceLT, Nat.reduceAdd, Nat.reduceSub, Nat.reduceMul, Nat.reduceEqDiff, reduceCtorEq, Nat.reduceLeDiff, Int.reduceLT, Int.reduceLE, Int.reduceEq, Int.reduceAdd, Int.reduceToNat, Int.reduceNeg, Int.reduceNegSucc, ↓vz_seq]; done) | (simp only [go_sem, List.range', reduceIte, Nat.reduceLT, Nat.reduceAdd, Nat.reduceSub, Nat.reduceMul, Nat.reduceEqDiff, reduceCtorEq, Nat.reduceLeDiff, Int.reduceLT, Int.reduceLE, Int.reduceEq, Int.reduceAdd, Int.reduceToNat, Int.reduceNeg, Int.reduceNegSucc, ↓vz_seq]; rfl)) ?_)
          · rw [List.take_succ_eq_append_getElem hlt']; exact hc
      · simp only [go_sem, List.range', reduceIte, Nat.reduceLT, Nat.reduceAdd, Nat.reduceSub, Nat.reduceMul, Nat.reduceEqDiff, reduceCtorEq, Nat.reduceLeDiff, Int.reduceLT, Int.reduceLE, Int.reduceEq, Int.reduceAdd, Int.reduceToNat, Int.reduceNeg, Int.reduceNegSucc, ↓vz_seq]
        have : i = es.length := by omega
        subst this
        rw [List.take_length, List.drop_length, cp] at hc
        subst hc
        exact ⟨rfl, rfl⟩
end Go.Proofs.YtahamnipffckhaaDoor
