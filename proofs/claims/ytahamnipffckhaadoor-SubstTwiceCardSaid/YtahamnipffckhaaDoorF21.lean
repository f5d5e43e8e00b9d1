import Derived.Test.YtahamnipffckhaaDoorG2
set_option linter.unusedVariables false
set_option linter.unusedSimpArgs false
namespace Go.Proofs.YtahamnipffckhaaDoor
open Go Go.RowKit
/-! SubstTwice. -/
def nx : ByteArray := ⟨#[120]⟩
def ny : ByteArray := ⟨#[121]⟩
/-- What is put twice is what is put at once. -/
theorem twice {t a b : Tm} (ht : smallB t = true) (ha : smallB a = true) (hb : smallB b = true) (hsa : (sortT a).1 = 1) (hsb : (sortT b).1 = 1) :
    putTop t [(nx, a)] = (zTm, 7) ∨ ∃ c, putTop t [(nx, a)] = (c, 0) ∧ ((putTop c [(ny, b)]).2 = 0 → (putTop a [(ny, b)]).2 = 0 → ∃ d g, putTop c [(ny, b)] = (d, 0) ∧ putTop a [(ny, b)] = (g, 0) ∧ putTop t [(nx, g), (ny, b)] = (d, 0) ∧ (decide (d.depth ≤ 100) && decide (d.depth ≤ 100) && sameT d d) = true) := by
  simp only [smallB, Bool.and_eq_true, decide_eq_true_eq] at ht ha hb
  obtain ⟨⟨t1, t2⟩, t3⟩ := ht
  obtain ⟨⟨a1, a2⟩, a3⟩ := ha
  obtain ⟨⟨b1, b2⟩, b3⟩ := hb
  have fa : fstErr [(nx, a)] = 0 := by simp [fstErr, a1]
  have fb : fstErr [(ny, b)] = 0 := by simp [fstErr, b1]
  have hsa' : sortT a = (1, 0) := Prod.ext hsa a1
  have hsb' : sortT b = (1, 0) := Prod.ext hsb b1
  rcases putTop_is (t := t) (l := [(nx, a)]) (D := 20) t1 fa (by simpa using a3) (by omega) with ⟨hc, hcz⟩ | hc
  · refine .inr ⟨_, hc, fun h1 h2 => ?_⟩
    have dc := sub_depth (w := asc [(nx, a)]) (D := 20) (fun k to hk => by obtain ⟨x, hx, rfl⟩ := asc_mem hk; simp at hx; subst hx; exact a3) t.depth t (Nat.le_refl _)
    obtain ⟨g1, g2, g3⟩ := sortT_ok t1
    have rc := sub_right (goodW_asc [(nx, a)]) t.depth t 0 (Nat.le_refl _) g1 g2 g3
    have sc := sortT_right rc hcz (by omega)
    generalize hcd : subT (asc [(nx, a)]) t = c at *
    rcases putTop_is (t := c) (l := [(ny, b)]) (D := 20) (by rw [sc]) fb (by simpa using b3) (by omega) with ⟨hd, hdz⟩ | hd
    · rcases putTop_is (t := a) (l := [(ny, b)]) (D := 20) a1 fb (by simpa using b3) (by omega) with ⟨hg, hgz⟩ | hg
      · refine ⟨_, _, hd, hg, ?_, ?_⟩
        · -- at once
          obtain ⟨p1, p2, p3⟩ := sortT_ok a1
          have ra : rightB a 1 = true := by
            have := sortT_right p3 p1 p2
            rw [hsa'] at this
            rw [right_iff] at p3 ⊢
            exact ⟨p3.1, .inr (by simpa using (congrArg Prod.fst this).symm), p3.2.2⟩
          have rg := sub_right (goodW_asc [(ny, b)]) a.depth a 1 (Nat.le_refl _) p1 p2 ra
          have dg := sub_depth (w := asc [(ny, b)]) (D := 20) (fun k to hk => by obtain ⟨x, hx, rfl⟩ := asc_mem hk; simp at hx; subst hx; exact b3) a.depth a (Nat.le_refl _)
          have sg := sortT_right rg hgz (by omega)
          have sg1 : (shp (subT (asc [(ny, b)]) a).op.toNat).sort = 1 := by
            rcases (right_iff.1 rg).2.1 with q | q
            · cases q
            · exact q
          rw [sg1] at sg
          generalize hgd : subT (asc [(ny, b)]) a = g at *
          have f3 : fstErr [(nx, g), (ny, b)] = 0 := by simp [fstErr, sg, b1]
          have w1 : ∀ k, asc [(nx, a)] k = if k = (nx, 1) then some a else none := fun k => by simp [asc, hsa']
          have w2 : ∀ k, asc [(ny, b)] k = if k = (ny, 1) then some b else none := fun k => by simp [asc, hsb']
          have w3 : ∀ k, asc [(nx, g), (ny, b)] k = if k = (nx, 1) then some g else if k = (ny, 1) then some b else none := fun k => by simp [asc, sg, hsb']
          have hcomp : subT (asc [(ny, b)]) c = subT (asc [(nx, g), (ny, b)]) t := by
            rw [← hcd]
            refine sub_comp (fun k => ?_) t.depth t 0 (Nat.le_refl _) g3
            rw [w3 k, w1 k]
            split
            · simp only [hgd]
            · rw [w2]
          rw [putTop_fits (t := t) (l := [(nx, g), (ny, b)]) (D := 40) t1 f3 (by simp; omega) (by omega) (by rw [← hcomp]; exact hdz), hcomp]
        · have dd := sub_depth (w := asc [(ny, b)]) (D := 20) (fun k to hk => by obtain ⟨x, hx, rfl⟩ := asc_mem hk; simp at hx; subst hx; exact b3) c.depth c (Nat.le_refl _)
          rw [(sameT_iff _ _).2 rfl]
          simp
          omega
      · rw [hg] at h2; cases h2
    · rw [hd] at h1; cases h1
  · exact .inl hc
set_option maxHeartbeats 1000000 in
theorem SubstTwice_pure (t a b : Tm) : Pure Tryd.prog 6 [t.pv, a.pv, b.pv] (.bool true) := by
  refine pure_of Tryd.func6 rfl (by rfl) Tryd.ntmps6 Tryd.results6 (by simp) ?_
  simp only [go_sem, List.range', reduceIte, Nat.reduceLT, Nat.reduceAdd, Nat.reduceSub, Nat.reduceMul, Nat.reduceEqDiff, reduceCtorEq, Nat.reduceLeDiff, Int.reduceLT, Int.reduceLE, Int.reduceEq, Int.reduceAdd, Int.reduceToNat, Int.reduceNeg, Int.reduceNegSucc, ↓vz_seq]
  refine Pure.call shown_pure (by first | (simp only [go_sem, List.range', reduceIte, Nat.reduceLT, Nat.reduceAdd, Nat.reduceSub, Nat.reduceMul, Nat.reduceEqDiff, reduceCtorEq, Nat.reduceLeDiff, Int.reduceLT, Int.reduceLE, Int.reduceEq, Int.reduceAdd, Int.reduceToNat, Int.reduceNeg, Int.reduceNegSucc, ↓vz_seq]; done) | (simp only [go_sem, List.range', reduceIte, Nat.reduceLT, Nat.reduceAdd, Nat.reduceSub, Nat.reduceMul, Nat.reduceEqDiff, reduceCtorEq, Nat.reduceLeDiff, Int.reduceLT, Int.reduceLE, Int.reduceEq, Int.reduceAdd, Int.reduceToNat, Int.reduceNeg, Int.reduceNegSucc, ↓vz_seq]; rfl)) ?_
  simp only [go_sem, List.range', reduceIte, Nat.reduceLT, Nat.reduceAdd, Nat.reduceSub, Nat.reduceMul, Nat.reduceEqDiff, reduceCtorEq, Nat.reduceLeDiff, Int.reduceLT, Int.reduceLE, Int.reduceEq, Int.reduceAdd, Int.reduceToNat, Int.reduceNeg, Int.reduceNegSucc, ↓vz_seq]
  refine Pure.call (small_pure t) (by first | (simp only [go_sem, List.range', reduceIte, Nat.reduceLT, Nat.reduceAdd, Nat.reduceSub, Nat.reduceMul, Nat.reduceEqDiff, reduceCtorEq, Nat.reduceLeDiff, Int.reduceLT, Int.reduceLE, Int.reduceEq, Int.reduceAdd, Int.reduceToNat, Int.reduceNeg, Int.reduceNegSucc, ↓vz_seq]; done) | (simp only [go_sem, List.range', reduceIte, Nat.reduceLT, Nat.reduceAdd, Nat.reduceSub, Nat.reduceMul, Nat.reduceEqDiff, reduceCtorEq, Nat.reduceLeDiff, Int.reduceLT, Int.reduceLE, Int.reduceEq, Int.reduceAdd, Int.reduceToNat, Int.reduceNeg, Int.reduceNegSucc, ↓vz_seq]; rfl)) ?_
  simp only [go_sem, List.range', reduceIte, Nat.reduceLT, Nat.reduceAdd, Nat.reduceSub, Nat.reduceMul, Nat.reduceEqDiff, reduceCtorEq, Nat.reduceLeDiff, Int.reduceLT, Int.reduceLE, Int.reduceEq, Int.reduceAdd, Int.reduceToNat, Int.reduceNeg, Int.reduceNegSucc, ↓vz_seq]
  refine Pure.call (small_pure a) (by first | (simp only [go_sem, List.range', reduceIte, Nat.reduceLT, Nat.reduceAdd, Nat.reduceSub, Nat.reduceMul, Nat.reduceEqDiff, reduceCtorEq, Nat.reduceLeDiff, Int.reduceLT, Int.reduceLE, Int.reduceEq, Int.reduceAdd, Int.reduceToNat, Int.reduceNeg, Int.reduceNegSucc, ↓vz_seq]; done) | (simp only [go_sem, List.range', reduceIte, Nat.reduceLT, Nat.reduceAdd, Nat.reduceSub, Nat.reduceMul, Nat.reduceEqDiff, reduceCtorEq, Nat.reduceLeDiff, Int.reduceLT, Int.reduceLE, Int.reduceEq, Int.reduceAdd, Int.reduceToNat, Int.reduceNeg, Int.reduceNegSucc, ↓vz_seq]; rfl)) ?_
  simp only [go_sem, List.range', reduceIte, Nat.reduceLT, Nat.reduceAdd, Nat.reduceSub, Nat.reduceMul, Nat.reduceEqDiff, reduceCtorEq, Nat.reduceLeDiff, Int.reduceLT, Int.reduceLE, Int.reduceEq, Int.reduceAdd, Int.reduceToNat, Int.reduceNeg, Int.reduceNegSucc, ↓vz_seq]
  refine Pure.call (small_pure b) (by first | (simp only [go_sem, List.range', reduceIte, Nat.reduceLT, Nat.reduceAdd, Nat.reduceSub, Nat.reduceMul, Nat.reduceEqDiff, reduceCtorEq, Nat.reduceLeDiff, Int.reduceLT, Int.reduceLE, Int.reduceEq, Int.reduceAdd, Int.reduceToNat, Int.reduceNeg, Int.reduceNegSucc, ↓vz_seq]; done) | (simp only [go_sem, List.range', reduceIte, Nat.reduceLT, Nat.reduceAdd, Nat.reduceSub, Nat.reduceMul, Nat.reduceEqDiff, reduceCtorEq, Nat.reduceLeDiff, Int.reduceLT, Int.reduceLE, Int.reduceEq, Int.reduceAdd, Int.reduceToNat, Int.reduceNeg, Int.reduceNegSucc, ↓vz_seq]; rfl)) ?_
  simp only [go_sem, List.range', reduceIte, Nat.reduceLT, Nat.reduceAdd, Nat.reduceSub, Nat.reduceMul, Nat.reduceEqDiff, reduceCtorEq, Nat.reduceLeDiff, Int.reduceLT, Int.reduceLE, Int.reduceEq, Int.reduceAdd, Int.reduceToNat, Int.reduceNeg, Int.reduceNegSucc, ↓vz_seq]
  refine Pure.call (Sort_pure a) (by first | (simp only [go_sem, List.range', reduceIte, Nat.reduceLT, Nat.reduceAdd, Nat.reduceSub, Nat.reduceMul, Nat.reduceEqDiff, reduceCtorEq, Nat.reduceLeDiff, Int.reduceLT, Int.reduceLE, Int.reduceEq, Int.reduceAdd, Int.reduceToNat, Int.reduceNeg, Int.reduceNegSucc, ↓vz_seq]; done) | (simp only [go_sem, List.range', reduceIte, Nat.reduceLT, Nat.reduceAdd, Nat.reduceSub, Nat.reduceMul, Nat.reduceEqDiff, reduceCtorEq, Nat.reduceLeDiff, Int.reduceLT, Int.reduceLE, Int.reduceEq, Int.reduceAdd, Int.reduceToNat, Int.reduceNeg, Int.reduceNegSucc, ↓vz_seq]; rfl)) ?_
  simp only [go_sem, List.range', reduceIte, Nat.reduceLT, Nat.reduceAdd, Nat.reduceSub, Nat.reduceMul, Nat.reduceEqDiff, reduceCtorEq, Nat.reduceLeDiff, Int.reduceLT, Int.reduceLE, Int.reduceEq, Int.reduceAdd, Int.reduceToNat, Int.reduceNeg, Int.reduceNegSucc, ↓vz_seq]
  refine Pure.call (Sort_pure b) (by first | (simp only [go_sem, List.range', reduceIte, Nat.reduceLT, Nat.reduceAdd, Nat.reduceSub, Nat.reduceMul, Nat.reduceEqDiff, reduceCtorEq, Nat.reduceLeDiff, Int.reduceLT, Int.reduceLE, Int.reduceEq, Int.reduceAdd, Int.reduceToNat, Int.reduceNeg, Int.reduceNegSucc, ↓vz_seq]; done) | (simp only [go_sem, List.range', reduceIte, Nat.reduceLT, Nat.reduceAdd, Nat.reduceSub, Nat.reduceMul, Nat.reduceEqDiff, reduceCtorEq, Nat.reduceLeDiff, Int.reduceLT, Int.reduceLE, Int.reduceEq, Int.reduceAdd, Int.reduceToNat, Int.reduceNeg, Int.reduceNegSucc, ↓vz_seq]; rfl)) ?_
  have hall := twice (t := t) (a := a) (b := b)
  cases ht : smallB t with
  | false => simp only [go_sem, List.range', reduceIte, Nat.reduceLT, Nat.reduceAdd, Nat.reduceSub, Nat.reduceMul, Nat.reduceEqDiff, reduceCtorEq, Nat.reduceLeDiff, Int.reduceLT, Int.reduceLE, Int.reduceEq, Int.reduceAdd, Int.reduceToNat, Int.reduceNeg, Int.reduceNegSucc, ↓vz_seq, ht, Bool.not_false, Bool.not_true]
  | true =>
    cases ha : smallB a with
    | false => simp only [go_sem, List.range', reduceIte, Nat.reduceLT, Nat.reduceAdd, Nat.reduceSub, Nat.reduceMul, Nat.reduceEqDiff, reduceCtorEq, Nat.reduceLeDiff, Int.reduceLT, Int.reduceLE, Int.reduceEq, Int.reduceAdd, Int.reduceToNat, Int.reduceNeg, Int.reduceNegSucc, ↓vz_seq, ht, ha, Bool.not_false, Bool.not_true]
    | true =>
      cases hb : smallB b with
      | false => simp only [go_sem, List.range', reduceIte, Nat.reduceLT, Nat.reduceAdd, Nat.reduceSub, Nat.reduceMul, Nat.reduceEqDiff, reduceCtorEq, Nat.reduceLeDiff, Int.reduceLT, Int.reduceLE, Int.reduceEq, Int.reduceAdd, Int.reduceToNat, Int.reduceNeg, Int.reduceNegSucc, ↓vz_seq, ht, ha, hb, Bool.not_false, Bool.not_true]
      | true =>
        by_cases hsa : (sortT a).1 = 1
        · by_cases hsb : (sortT b).1 = 1
          · rw [hsa, hsb]
            have hall := hall ht ha hb hsa hsb
            simp only [go_sem, List.range', reduceIte, Nat.reduceLT, Nat.reduceAdd, Nat.reduceSub, Nat.reduceMul, Nat.reduceEqDiff, reduceCtorEq, Nat.reduceLeDiff, Int.reduceLT, Int.reduceLE, Int.reduceEq, Int.reduceAdd, Int.reduceToNat, Int.reduceNeg, Int.reduceNegSucc, ↓vz_seq, Bool.not_false, Bool.not_true, decide_true]
            refine Pure.call (Put_pure t [(nx, a)]) (by first | (simp only [go_sem, List.range', reduceIte, Nat.reduceLT, Nat.reduceAdd, Nat.reduceSub, Nat.reduceMul, Nat.reduceEqDiff, reduceCtorEq, Nat.reduceLeDiff, Int.reduceLT, Int.reduceLE, Int.reduceEq, Int.reduceAdd, Int.reduceToNat, Int.reduceNeg, Int.reduceNegSucc, ↓vz_seq, asP_eq, nx, Tm.pv, Tm.cells_eq, List.map_cons, List.map_nil]; done) | (simp only [go_sem, List.range', reduceIte, Nat.reduceLT, Nat.reduceAdd, Nat.reduceSub, Nat.reduceMul, Nat.reduceEqDiff, reduceCtorEq, Nat.reduceLeDiff, Int.reduceLT, Int.reduceLE, Int.reduceEq, Int.reduceAdd, Int.reduceToNat, Int.reduceNeg, Int.reduceNegSucc, ↓vz_seq, asP_eq, nx, Tm.pv, Tm.cells_eq, List.map_cons, List.map_nil]; rfl)) ?_
            rcases hall with hall | ⟨c, hc, hall⟩
            · rw [hall]
              simp only [go_sem, List.range', reduceIte, Nat.reduceLT, Nat.reduceAdd, Nat.reduceSub, Nat.reduceMul, Nat.reduceEqDiff, reduceCtorEq, Nat.reduceLeDiff, Int.reduceLT, Int.reduceLE, Int.reduceEq, Int.reduceAdd, Int.reduceToNat, Int.reduceNeg, Int.reduceNegSucc, ↓vz_seq, Bool.not_false, Bool.not_true, decide_true, decide_false]
            · rw [hc]
              simp only [go_sem, List.range', reduceIte, Nat.reduceLT, Nat.reduceAdd, Nat.reduceSub, Nat.reduceMul, Nat.reduceEqDiff, reduceCtorEq, Nat.reduceLeDiff, Int.reduceLT, Int.reduceLE, Int.reduceEq, Int.reduceAdd, Int.reduceToNat, Int.reduceNeg, Int.reduceNegSucc, ↓vz_seq, Bool.not_false, Bool.not_true, decide_true, decide_false]
              refine Pure.call (Put_pure c [(ny, b)]) (by first | (simp only [go_sem, List.range', reduceIte, Nat.reduceLT, Nat.reduceAdd, Nat.reduceSub, Nat.reduceMul, Nat.reduceEqDiff, reduceCtorEq, Nat.reduceLeDiff, Int.reduceLT, Int.reduceLE, Int.reduceEq, Int.reduceAdd, Int.reduceToNat, Int.reduceNeg, Int.reduceNegSucc, ↓vz_seq, asP_eq, ny, Tm.pv, Tm.cells_eq, List.map_cons, List.map_nil]; done) | (simp only [go_sem, List.range', reduceIte, Nat.reduceLT, Nat.reduceAdd, Nat.reduceSub, Nat.reduceMul, Nat.reduceEqDiff, reduceCtorEq, Nat.reduceLeDiff, Int.reduceLT, Int.reduceLE, Int.reduceEq, Int.reduceAdd, Int.reduceToNat, Int.reduceNeg, Int.reduceNegSucc, ↓vz_seq, asP_eq, ny, Tm.pv, Tm.cells_eq, List.map_cons, List.map_nil]; rfl)) ?_
              generalize putTop c [(ny, b)] = cr at hall ⊢
              simp only [go_sem, List.range', reduceIte, Nat.reduceLT, Nat.reduceAdd, Nat.reduceSub, Nat.reduceMul, Nat.reduceEqDiff, reduceCtorEq, Nat.reduceLeDiff, Int.reduceLT, Int.reduceLE, Int.reduceEq, Int.reduceAdd, Int.reduceToNat, Int.reduceNeg, Int.reduceNegSucc, ↓vz_seq]
              refine Pure.call (Put_pure a [(ny, b)]) (by first | (simp only [go_sem, List.range', reduceIte, Nat.reduceLT, Nat.reduceAdd, Nat.reduceSub, Nat.reduceMul, Nat.reduceEqDiff, reduceCtorEq, Nat.reduceLeDiff, Int.reduceLT, Int.reduceLE, Int.reduceEq, Int.reduceAdd, Int.reduceToNat, Int.reduceNeg, Int.reduceNegSucc, ↓vz_seq, asP_eq, ny, Tm.pv, Tm.cells_eq, List.map_cons, List.map_nil]; done) | (simp only [go_sem, List.range', reduceIte, Nat.reduceLT, Nat.reduceAdd, Nat.reduceSub, Nat.reduceMul, Nat.reduceEqDiff, reduceCtorEq, Nat.reduceLeDiff, Int.reduceLT, Int.reduceLE, Int.reduceEq, Int.reduceAdd, Int.reduceToNat, Int.reduceNeg, Int.reduceNegSucc, ↓vz_seq, asP_eq, ny, Tm.pv, Tm.cells_eq, List.map_cons, List.map_nil]; rfl)) ?_
              generalize putTop a [(ny, b)] = ar at hall ⊢
              by_cases h1 : cr.2 = 0
              · by_cases h2 : ar.2 = 0
                · obtain ⟨d, g, q1, q2, q3, q4⟩ := hall h1 h2
                  subst q1; subst q2
                  simp only [go_sem, List.range', reduceIte, Nat.reduceLT, Nat.reduceAdd, Nat.reduceSub, Nat.reduceMul, Nat.reduceEqDiff, reduceCtorEq, Nat.reduceLeDiff, Int.reduceLT, Int.reduceLE, Int.reduceEq, Int.reduceAdd, Int.reduceToNat, Int.reduceNeg, Int.reduceNegSucc, ↓vz_seq, Bool.not_false, Bool.not_true, decide_true, decide_false]
                  refine Pure.call (Put_pure t [(nx, g), (ny, b)]) (by first | (simp only [go_sem, List.range', reduceIte, Nat.reduceLT, Nat.reduceAdd, Nat.reduceSub, Nat.reduceMul, Nat.reduceEqDiff, reduceCtorEq, Nat.reduceLeDiff, Int.reduceLT, Int.reduceLE, Int.reduceEq, Int.reduceAdd, Int.reduceToNat, Int.reduceNeg, Int.reduceNegSucc, ↓vz_seq, asP_eq, nx, ny, Tm.pv, Tm.cells_eq, List.map_cons, List.map_nil]; done) | (simp only [go_sem, List.range', reduceIte, Nat.reduceLT, Nat.reduceAdd, Nat.reduceSub, Nat.reduceMul, Nat.reduceEqDiff, reduceCtorEq, Nat.reduceLeDiff, Int.reduceLT, Int.reduceLE, Int.reduceEq, Int.reduceAdd, Int.reduceToNat, Int.reduceNeg, Int.reduceNegSucc, ↓vz_seq, asP_eq, nx, ny, Tm.pv, Tm.cells_eq, List.map_cons, List.map_nil]; rfl)) ?_
                  rw [q3]
                  simp only [go_sem, List.range', reduceIte, Nat.reduceLT, Nat.reduceAdd, Nat.reduceSub, Nat.reduceMul, Nat.reduceEqDiff, reduceCtorEq, Nat.reduceLeDiff, Int.reduceLT, Int.reduceLE, Int.reduceEq, Int.reduceAdd, Int.reduceToNat, Int.reduceNeg, Int.reduceNegSucc, ↓vz_seq, Bool.not_false, Bool.not_true, decide_true, decide_false]
                  refine Pure.call (rSame_pure d d) (by first | (simp only [go_sem, List.range', reduceIte, Nat.reduceLT, Nat.reduceAdd, Nat.reduceSub, Nat.reduceMul, Nat.reduceEqDiff, reduceCtorEq, Nat.reduceLeDiff, Int.reduceLT, Int.reduceLE, Int.reduceEq, Int.reduceAdd, Int.reduceToNat, Int.reduceNeg, Int.reduceNegSucc, ↓vz_seq]; done) | (simp only [go_sem, List.range', reduceIte, Nat.reduceLT, Nat.reduceAdd, Nat.reduceSub, Nat.reduceMul, Nat.reduceEqDiff, reduceCtorEq, Nat.reduceLeDiff, Int.reduceLT, Int.reduceLE, Int.reduceEq, Int.reduceAdd, Int.reduceToNat, Int.reduceNeg, Int.reduceNegSucc, ↓vz_seq]; rfl)) ?_
                  rw [q4]
                  simp only [go_sem, List.range', reduceIte, Nat.reduceLT, Nat.reduceAdd, Nat.reduceSub, Nat.reduceMul, Nat.reduceEqDiff, reduceCtorEq, Nat.reduceLeDiff, Int.reduceLT, Int.reduceLE, Int.reduceEq, Int.reduceAdd, Int.reduceToNat, Int.reduceNeg, Int.reduceNegSucc, ↓vz_seq, Bool.not_false, Bool.not_true, decide_true, decide_false]
                · simp only [go_sem, List.range', reduceIte, Nat.reduceLT, Nat.reduceAdd, Nat.reduceSub, Nat.reduceMul, Nat.reduceEqDiff, reduceCtorEq, Nat.reduceLeDiff, Int.reduceLT, Int.reduceLE, Int.reduceEq, Int.reduceAdd, Int.reduceToNat, Int.reduceNeg, Int.reduceNegSucc, ↓vz_seq, h1, Bool.not_false, Bool.not_true, decide_true, decide_false, decide_eq_false h2]
              · simp only [go_sem, List.range', reduceIte, Nat.reduceLT, Nat.reduceAdd, Nat.reduceSub, Nat.reduceMul, Nat.reduceEqDiff, reduceCtorEq, Nat.reduceLeDiff, Int.reduceLT, Int.reduceLE, Int.reduceEq, Int.reduceAdd, Int.reduceToNat, Int.reduceNeg, Int.reduceNegSucc, ↓vz_seq, Bool.not_false, Bool.not_true, decide_true, decide_false, decide_eq_false h1]
          · simp only [go_sem, List.range', reduceIte, Nat.reduceLT, Nat.reduceAdd, Nat.reduceSub, Nat.reduceMul, Nat.reduceEqDiff, reduceCtorEq, Nat.reduceLeDiff, Int.reduceLT, Int.reduceLE, Int.reduceEq, Int.reduceAdd, Int.reduceToNat, Int.reduceNeg, Int.reduceNegSucc, ↓vz_seq, ht, ha, hb, hsa, Bool.not_false, Bool.not_true, decide_true, decide_eq_false hsb]
        · simp only [go_sem, List.range', reduceIte, Nat.reduceLT, Nat.reduceAdd, Nat.reduceSub, Nat.reduceMul, Nat.reduceEqDiff, reduceCtorEq, Nat.reduceLeDiff, Int.reduceLT, Int.reduceLE, Int.reduceEq, Int.reduceAdd, Int.reduceToNat, Int.reduceNeg, Int.reduceNegSucc, ↓vz_seq, ht, ha, hb, Bool.not_false, Bool.not_true, decide_eq_false hsa]
end Go.Proofs.YtahamnipffckhaaDoor
