import Derived.Test.YtahamnipffckhaaDoorF5
set_option linter.unusedVariables false
set_option linter.unusedSimpArgs false
namespace Go.Proofs.YtahamnipffckhaaDoor
open Go Go.RowKit
def SHc : List AV := shCells.map .pv
@[go_sem] theorem SHc_ren (r : Nat → Nat) : AV.renL r SHc = SHc := renL_pv r shCells
@[go_sem, simp] theorem SHc_lt (n : Nat) : AV.ltL n SHc = True := eq_true (ltL_pv n shCells)
def shp (k : Nat) : Shp := shapeL.getD k ⟨0, false, false, [], false⟩
theorem SHc_at : ∀ k, k < 29 → SHc.drop (k * 5) = .pv (.int .i64 (shp k).sort) :: .pv (.bool (shp k).name) :: .pv (.bool (shp k).number) :: .pv (.sl ((shp k).a.map fun x => [.int .i64 x])) :: .pv (.bool (shp k).many) :: SHc.drop (k * 5 + 5) := by
  intro k hk
  have : ∀ k : Fin 29, SHc.drop (k.1 * 5) = .pv (.int .i64 (shp k.1).sort) :: .pv (.bool (shp k.1).name) :: .pv (.bool (shp k.1).number) :: .pv (.sl ((shp k.1).a.map fun x => [.int .i64 x])) :: .pv (.bool (shp k.1).many) :: SHc.drop (k.1 * 5 + 5) := by
    intro k
    rcases k with ⟨k, hk⟩
    iterate 29 (cases k with
      | zero => rfl
      | succ k => ?_)
    omega
  exact this ⟨k, hk⟩
def b1 (t : Tm) (sort : Int) (s : Shp) : Bool := (!decide (sort = 0) && !decide (s.sort = sort)) || (s.name && !nameB t.name)
def b2 (t : Tm) (sort : Int) (s : Shp) : Bool := b1 t sort s || (!s.name && !decide (t.name = ⟨#[]⟩))
def b3 (t : Tm) (sort : Int) (s : Shp) : Bool := b2 t sort s || (!s.number && !decide (t.n = 0))
def b4 (t : Tm) (sort : Int) (s : Shp) : Bool := b3 t sort s || (!s.many && !decide (t.a.length = s.a.length))
def HR (t : Tm) (op : Nat) : AHeap := [.box SHc, .box [.pv (.int .i64 (op : Int)), .pv (.str t.name), .pv (.int .i64 t.n), .pv (.sl (t.a.map Tm.cells))],
        .box [.pv (.int .i64 (shp op).sort), .pv (.bool (shp op).name), .pv (.bool (shp op).number), .pv (.sl ((shp op).a.map fun x => [.int .i64 x])), .pv (.bool (shp op).many)]]
mutual
def rightB : Tm → Int → Bool
  | .mk op name n a, sort => if op < 1 ∨ 28 < op then false else if b4 (.mk op name n a) sort (shp op.toNat) = true then false else rightL a (shp op.toNat) 0
def rightL : List Tm → Shp → Nat → Bool
  | [], _, _ => true
  | x :: r, s, i => rightB x (s.a.getD (if s.many then 0 else i) 0) && rightL r s (i + 1)
end
theorem rightB_eq (t : Tm) (sort : Int) : rightB t sort = if t.op < 1 ∨ 28 < t.op then false else if b4 t sort (shp t.op.toNat) = true then false else rightL t.a (shp t.op.toNat) 0 := by cases t; simp only [rightB, Tm.op, Tm.a]; rfl
@[go_sem] theorem le5 (n : Nat) : (5 ≤ n + 1 + 1 + 1 + 1 + 1) = True := eq_true (by omega)
theorem shp_many : ∀ k, k < 29 → (shp k).many = true → (shp k).a.length = 1 := by decide
def E57 (t : Tm) (i : Nat) : AEnv :=
  ((((E0.put 1 (.ptr 0 0)).put 7 (.ptr 1 0)).put 77 (.pv (.sl (t.a.map Tm.cells)))).put 78 (.pv (.int .i64 (t.a.length : Int)))).put 79 (.pv (.int .i64 (i : Int)))
set_option maxHeartbeats 4000000 in
theorem right_ref : ∀ (k : Nat) (t : Tm) (sort : Int), t.depth ≤ k →
    RefK Tryd.prog 57 [.pv t.pv, .ptr 0 0, .pv (.int .i64 sort)] [.box SHc] (fun r hs => r = .ret (.pv (.bool (rightB t sort))) ∧ hs = [.box SHc])
  | 0, t, sort, hk => by rw [Tm.depth_eq] at hk; omega
  | k + 1, t, sort, hk => by
    refine RefK.fit (ent_of Tryd.func57 rfl (by rfl)) fun hfit => ?_
    simp only [fitAL, fitA, fitL, fitP, List.length_map] at hfit
    have hlen : t.a.length ≤ 140737488355328 := hfit.1.2.2.2.1.1
    refine refK_of Tryd.func57 rfl (by rfl) Tryd.ntmps57 Tryd.results57 (by simp) rfl ?_
    have hB := rightB_eq t sort
    generalize rightB t sort = res at hB ⊢
    simp only [go_sem, List.range', reduceIte, Nat.reduceLT, Nat.reduceAdd, Nat.reduceSub, Nat.reduceMul, Nat.reduceEqDiff, reduceCtorEq, Nat.reduceLeDiff, Int.reduceLT, Int.reduceLE, Int.reduceEq, Int.reduceAdd, Int.reduceToNat, Int.reduceNeg, Int.reduceNegSucc, ↓vz_seq]
    refine brG_dec (fun h1 => ?_) (fun h1 => ?_)
    · rw [if_pos (.inl h1)] at hB
      simp only [go_sem, List.range', reduceIte, Nat.reduceLT, Nat.reduceAdd, Nat.reduceSub, Nat.reduceMul, Nat.reduceEqDiff, reduceCtorEq, Nat.reduceLeDiff, Int.reduceLT, Int.reduceLE, Int.reduceEq, Int.reduceAdd, Int.reduceToNat, Int.reduceNeg, Int.reduceNegSucc, ↓vz_seq, h1, hB]
    simp only [go_sem, List.range', reduceIte, Nat.reduceLT, Nat.reduceAdd, Nat.reduceSub, Nat.reduceMul, Nat.reduceEqDiff, reduceCtorEq, Nat.reduceLeDiff, Int.reduceLT, Int.reduceLE, Int.reduceEq, Int.reduceAdd, Int.reduceToNat, Int.reduceNeg, Int.reduceNegSucc, ↓vz_seq, h1]
    refine brB_dec (fun h2 => ?_) (fun h2 => ?_)
    · rw [if_pos (.inr h2)] at hB
      simp only [go_sem, List.range', reduceIte, Nat.reduceLT, Nat.reduceAdd, Nat.reduceSub, Nat.reduceMul, Nat.reduceEqDiff, reduceCtorEq, Nat.reduceLeDiff, Int.reduceLT, Int.reduceLE, Int.reduceEq, Int.reduceAdd, Int.reduceToNat, Int.reduceNeg, Int.reduceNegSucc, ↓vz_seq, h2, hB]
    have hno : ¬ (t.op < 1 ∨ 28 < t.op) := by omega
    rw [if_neg hno] at hB
    obtain ⟨op, hop⟩ : ∃ op : Nat, t.op = op := ⟨t.op.toNat, by omega⟩
    rw [hop] at h1 h2 hB ⊢
    rw [Int.toNat_natCast] at hB
    have ho29 : op < 29 := by omega
    have hlt29 : ((op : Int) < ((29 : Nat) : Int)) := by omega
    simp only [go_sem, List.range', reduceIte, Nat.reduceLT, Nat.reduceAdd, Nat.reduceSub, Nat.reduceMul, Nat.reduceEqDiff, reduceCtorEq, Nat.reduceLeDiff, Int.reduceLT, Int.reduceLE, Int.reduceEq, Int.reduceAdd, Int.reduceToNat, Int.reduceNeg, Int.reduceNegSucc, ↓vz_seq]
    refine vz_draw 7 mixed (by kernel_rfl) ?_
    simp only [go_sem, List.range', reduceIte, Nat.reduceLT, Nat.reduceAdd, Nat.reduceSub, Nat.reduceMul, Nat.reduceEqDiff, reduceCtorEq, Nat.reduceLeDiff, Int.reduceLT, Int.reduceLE, Int.reduceEq, Int.reduceAdd, Int.reduceToNat, Int.reduceNeg, Int.reduceNegSucc, Int.natCast_nonneg, hlt29, Nat.zero_add, SHc_at op ho29]
    rw [vz_seq]
    refine vz_cut (fun e h => e 1 = .ptr 0 0 ∧ e 3 = .ptr 1 0 ∧ e 7 = .ptr 2 0 ∧ e 75 = .pv (.bool (b4 t sort (shp op))) ∧ h = HR t op) ?_ ?_
    · rw [vz_region]
      refine vz_cutO 18 (fun e h => e 1 = .ptr 0 0 ∧ e 3 = .ptr 1 0 ∧ e 7 = .ptr 2 0 ∧ e 41 = .pv (.bool (b1 t sort (shp op))) ∧ h = HR t op) ?_ ?_
      · simp only [go_sem, List.range', reduceIte, Nat.reduceLT, Nat.reduceAdd, Nat.reduceSub, Nat.reduceMul, Nat.reduceEqDiff, reduceCtorEq, Nat.reduceLeDiff, Int.reduceLT, Int.reduceLE, Int.reduceEq, Int.reduceAdd, Int.reduceToNat, Int.reduceNeg, Int.reduceNegSucc, ↓vz_seq]
        refine brG_decN (fun h3 => ?_) (fun h3 => ?_)
        · simp only [go_sem, List.range', reduceIte, Nat.reduceLT, Nat.reduceAdd, Nat.reduceSub, Nat.reduceMul, Nat.reduceEqDiff, reduceCtorEq, Nat.reduceLeDiff, Int.reduceLT, Int.reduceLE, Int.reduceEq, Int.reduceAdd, Int.reduceToNat, Int.reduceNeg, Int.reduceNegSucc, ↓vz_seq, decide_eq_false h3]
          refine brG_decN (fun h4 => ?_) (fun h4 => ?_)
          · simp only [go_sem, List.range', reduceIte, Nat.reduceLT, Nat.reduceAdd, Nat.reduceSub, Nat.reduceMul, Nat.reduceEqDiff, reduceCtorEq, Nat.reduceLeDiff, Int.reduceLT, Int.reduceLE, Int.reduceEq, Int.reduceAdd, Int.reduceToNat, Int.reduceNeg, Int.reduceNegSucc, ↓vz_seq, decide_eq_false h3, decide_eq_false h4]
            simp [b1, h3, h4, HR]
          · simp only [go_sem, List.range', reduceIte, Nat.reduceLT, Nat.reduceAdd, Nat.reduceSub, Nat.reduceMul, Nat.reduceEqDiff, reduceCtorEq, Nat.reduceLeDiff, Int.reduceLT, Int.reduceLE, Int.reduceEq, Int.reduceAdd, Int.reduceToNat, Int.reduceNeg, Int.reduceNegSucc, ↓vz_seq, decide_eq_false h3, decide_eq_true h4]
            refine brG_bool (fun h5 => ?_) (fun h5 => ?_)
            · simp only [go_sem, List.range', reduceIte, Nat.reduceLT, Nat.reduceAdd, Nat.reduceSub, Nat.reduceMul, Nat.reduceEqDiff, reduceCtorEq, Nat.reduceLeDiff, Int.reduceLT, Int.reduceLE, Int.reduceEq, Int.reduceAdd, Int.reduceToNat, Int.reduceNeg, Int.reduceNegSucc, ↓vz_seq, decide_eq_false h3, decide_eq_true h4, h5]
              refine Pure.call (Name_pure _) (by first | (simp only [go_sem, List.range', reduceIte, Nat.reduceLT, Nat.reduceAdd, Nat.reduceSub, Nat.reduceMul, Nat.reduceEqDiff, reduceCtorEq, Nat.reduceLeDiff, Int.reduceLT, Int.reduceLE, Int.reduceEq, Int.reduceAdd, Int.reduceToNat, Int.reduceNeg, Int.reduceNegSucc, ↓vz_seq]; done) | (simp only [go_sem, List.range', reduceIte, Nat.reduceLT, Nat.reduceAdd, Nat.reduceSub, Nat.reduceMul, Nat.reduceEqDiff, reduceCtorEq, Nat.reduceLeDiff, Int.reduceLT, Int.reduceLE, Int.reduceEq, Int.reduceAdd, Int.reduceToNat, Int.reduceNeg, Int.reduceNegSucc, ↓vz_seq]; rfl)) ?_
              simp only [go_sem, List.range', reduceIte, Nat.reduceLT, Nat.reduceAdd, Nat.reduceSub, Nat.reduceMul, Nat.reduceEqDiff, reduceCtorEq, Nat.reduceLeDiff, Int.reduceLT, Int.reduceLE, Int.reduceEq, Int.reduceAdd, Int.reduceToNat, Int.reduceNeg, Int.reduceNegSucc, ↓vz_seq, decide_eq_false h3, decide_eq_true h4, h5]
              simp [b1, h3, h4, h5, HR]
            · simp only [go_sem, List.range', reduceIte, Nat.reduceLT, Nat.reduceAdd, Nat.reduceSub, Nat.reduceMul, Nat.reduceEqDiff, reduceCtorEq, Nat.reduceLeDiff, Int.reduceLT, Int.reduceLE, Int.reduceEq, Int.reduceAdd, Int.reduceToNat, Int.reduceNeg, Int.reduceNegSucc, ↓vz_seq, decide_eq_false h3, decide_eq_true h4, h5]
              simp [b1, h3, h4, h5, HR]
        · simp only [go_sem, List.range', reduceIte, Nat.reduceLT, Nat.reduceAdd, Nat.reduceSub, Nat.reduceMul, Nat.reduceEqDiff, reduceCtorEq, Nat.reduceLeDiff, Int.reduceLT, Int.reduceLE, Int.reduceEq, Int.reduceAdd, Int.reduceToNat, Int.reduceNeg, Int.reduceNegSucc, ↓vz_seq, decide_eq_true h3]
          refine brG_bool (fun h5 => ?_) (fun h5 => ?_)
          · simp only [go_sem, List.range', reduceIte, Nat.reduceLT, Nat.reduceAdd, Nat.reduceSub, Nat.reduceMul, Nat.reduceEqDiff, reduceCtorEq, Nat.reduceLeDiff, Int.reduceLT, Int.reduceLE, Int.reduceEq, Int.reduceAdd, Int.reduceToNat, Int.reduceNeg, Int.reduceNegSucc, ↓vz_seq, decide_eq_true h3, h5]
            refine Pure.call (Name_pure _) (by first | (simp only [go_sem, List.range', reduceIte, Nat.reduceLT, Nat.reduceAdd, Nat.reduceSub, Nat.reduceMul, Nat.reduceEqDiff, reduceCtorEq, Nat.reduceLeDiff, Int.reduceLT, Int.reduceLE, Int.reduceEq, Int.reduceAdd, Int.reduceToNat, Int.reduceNeg, Int.reduceNegSucc, ↓vz_seq]; done) | (simp only [go_sem, List.range', reduceIte, Nat.reduceLT, Nat.reduceAdd, Nat.reduceSub, Nat.reduceMul, Nat.reduceEqDiff, reduceCtorEq, Nat.reduceLeDiff, Int.reduceLT, Int.reduceLE, Int.reduceEq, Int.reduceAdd, Int.reduceToNat, Int.reduceNeg, Int.reduceNegSucc, ↓vz_seq]; rfl)) ?_
            simp only [go_sem, List.range', reduceIte, Nat.reduceLT, Nat.reduceAdd, Nat.reduceSub, Nat.reduceMul, Nat.reduceEqDiff, reduceCtorEq, Nat.reduceLeDiff, Int.reduceLT, Int.reduceLE, Int.reduceEq, Int.reduceAdd, Int.reduceToNat, Int.reduceNeg, Int.reduceNegSucc, ↓vz_seq, decide_eq_true h3, h5]
            simp [b1, h3, h5, HR]
          · simp only [go_sem, List.range', reduceIte, Nat.reduceLT, Nat.reduceAdd, Nat.reduceSub, Nat.reduceMul, Nat.reduceEqDiff, reduceCtorEq, Nat.reduceLeDiff, Int.reduceLT, Int.reduceLE, Int.reduceEq, Int.reduceAdd, Int.reduceToNat, Int.reduceNeg, Int.reduceNegSucc, ↓vz_seq, decide_eq_true h3, h5]
            simp [b1, h3, h5, HR]
      · rintro e h ⟨e1, e3, e7, e41, rfl⟩
        simp only [List.drop_succ_cons, List.drop_zero]
        refine vz_cutO 10 (fun e h => e 1 = .ptr 0 0 ∧ e 3 = .ptr 1 0 ∧ e 7 = .ptr 2 0 ∧ e 51 = .pv (.bool (b2 t sort (shp op))) ∧ h = HR t op) ?_ ?_
        · simp only [go_sem, List.range', reduceIte, Nat.reduceLT, Nat.reduceAdd, Nat.reduceSub, Nat.reduceMul, Nat.reduceEqDiff, reduceCtorEq, Nat.reduceLeDiff, Int.reduceLT, Int.reduceLE, Int.reduceEq, Int.reduceAdd, Int.reduceToNat, Int.reduceNeg, Int.reduceNegSucc, ↓vz_seq, e1, e3, e7, e41, HR]
          refine brG_bool (fun h3 => ?_) (fun h3 => ?_)
          · simp only [go_sem, List.range', reduceIte, Nat.reduceLT, Nat.reduceAdd, Nat.reduceSub, Nat.reduceMul, Nat.reduceEqDiff, reduceCtorEq, Nat.reduceLeDiff, Int.reduceLT, Int.reduceLE, Int.reduceEq, Int.reduceAdd, Int.reduceToNat, Int.reduceNeg, Int.reduceNegSucc, ↓vz_seq, e1, e3, e7, e41, h3]
            simp [b2, h3, HR]
          · simp only [go_sem, List.range', reduceIte, Nat.reduceLT, Nat.reduceAdd, Nat.reduceSub, Nat.reduceMul, Nat.reduceEqDiff, reduceCtorEq, Nat.reduceLeDiff, Int.reduceLT, Int.reduceLE, Int.reduceEq, Int.reduceAdd, Int.reduceToNat, Int.reduceNeg, Int.reduceNegSucc, ↓vz_seq, e1, e3, e7, e41, h3]
            refine brG_bool (fun h5 => ?_) (fun h5 => ?_)
            · simp only [go_sem, List.range', reduceIte, Nat.reduceLT, Nat.reduceAdd, Nat.reduceSub, Nat.reduceMul, Nat.reduceEqDiff, reduceCtorEq, Nat.reduceLeDiff, Int.reduceLT, Int.reduceLE, Int.reduceEq, Int.reduceAdd, Int.reduceToNat, Int.reduceNeg, Int.reduceNegSucc, ↓vz_seq, e1, e3, e7, e41, h3, h5]
              simp only [Bool.not_eq_true'] at h5
              simp [b2, h3, h5, HR]
            · simp only [go_sem, List.range', reduceIte, Nat.reduceLT, Nat.reduceAdd, Nat.reduceSub, Nat.reduceMul, Nat.reduceEqDiff, reduceCtorEq, Nat.reduceLeDiff, Int.reduceLT, Int.reduceLE, Int.reduceEq, Int.reduceAdd, Int.reduceToNat, Int.reduceNeg, Int.reduceNegSucc, ↓vz_seq, e1, e3, e7, e41, h3, h5]
              simp only [Bool.not_eq_false'] at h5
              simp [b2, h3, h5, HR]
        · rintro e h ⟨e1, e3, e7, e51, rfl⟩
          simp only [List.drop_succ_cons, List.drop_zero]
          refine vz_cutO 10 (fun e h => e 1 = .ptr 0 0 ∧ e 3 = .ptr 1 0 ∧ e 7 = .ptr 2 0 ∧ e 61 = .pv (.bool (b3 t sort (shp op))) ∧ h = HR t op) ?_ ?_
          · simp only [go_sem, List.range', reduceIte, Nat.reduceLT, Nat.reduceAdd, Nat.reduceSub, Nat.reduceMul, Nat.reduceEqDiff, reduceCtorEq, Nat.reduceLeDiff, Int.reduceLT, Int.reduceLE, Int.reduceEq, Int.reduceAdd, Int.reduceToNat, Int.reduceNeg, Int.reduceNegSucc, ↓vz_seq, e1, e3, e7, e51, HR]
            refine brG_bool (fun h3 => ?_) (fun h3 => ?_)
            · simp only [go_sem, List.range', reduceIte, Nat.reduceLT, Nat.reduceAdd, Nat.reduceSub, Nat.reduceMul, Nat.reduceEqDiff, reduceCtorEq, Nat.reduceLeDiff, Int.reduceLT, Int.reduceLE, Int.reduceEq, Int.reduceAdd, Int.reduceToNat, Int.reduceNeg, Int.reduceNegSucc, ↓vz_seq, e1, e3, e7, e51, h3]
              simp [b3, h3, HR]
            · simp only [go_sem, List.range', reduceIte, Nat.reduceLT, Nat.reduceAdd, Nat.reduceSub, Nat.reduceMul, Nat.reduceEqDiff, reduceCtorEq, Nat.reduceLeDiff, Int.reduceLT, Int.reduceLE, Int.reduceEq, Int.reduceAdd, Int.reduceToNat, Int.reduceNeg, Int.reduceNegSucc, ↓vz_seq, e1, e3, e7, e51, h3]
              refine brG_bool (fun h5 => ?_) (fun h5 => ?_)
              · simp only [go_sem, List.range', reduceIte, Nat.reduceLT, Nat.reduceAdd, Nat.reduceSub, Nat.reduceMul, Nat.reduceEqDiff, reduceCtorEq, Nat.reduceLeDiff, Int.reduceLT, Int.reduceLE, Int.reduceEq, Int.reduceAdd, Int.reduceToNat, Int.reduceNeg, Int.reduceNegSucc, ↓vz_seq, e1, e3, e7, e51, h3, h5]
                simp only [Bool.not_eq_true'] at h5
                simp [b3, h3, h5, HR]
              · simp only [go_sem, List.range', reduceIte, Nat.reduceLT, Nat.reduceAdd, Nat.reduceSub, Nat.reduceMul, Nat.reduceEqDiff, reduceCtorEq, Nat.reduceLeDiff, Int.reduceLT, Int.reduceLE, Int.reduceEq, Int.reduceAdd, Int.reduceToNat, Int.reduceNeg, Int.reduceNegSucc, ↓vz_seq, e1, e3, e7, e51, h3, h5]
                simp only [Bool.not_eq_false'] at h5
                simp [b3, h3, h5, HR]
          · rintro e h ⟨e1, e3, e7, e61, rfl⟩
            simp only [go_sem, List.range', reduceIte, Nat.reduceLT, Nat.reduceAdd, Nat.reduceSub, Nat.reduceMul, Nat.reduceEqDiff, reduceCtorEq, Nat.reduceLeDiff, Int.reduceLT, Int.reduceLE, Int.reduceEq, Int.reduceAdd, Int.reduceToNat, Int.reduceNeg, Int.reduceNegSucc, ↓vz_seq, e1, e3, e7, e61, HR]
            refine brG_bool (fun h3 => ?_) (fun h3 => ?_)
            · simp only [go_sem, List.range', reduceIte, Nat.reduceLT, Nat.reduceAdd, Nat.reduceSub, Nat.reduceMul, Nat.reduceEqDiff, reduceCtorEq, Nat.reduceLeDiff, Int.reduceLT, Int.reduceLE, Int.reduceEq, Int.reduceAdd, Int.reduceToNat, Int.reduceNeg, Int.reduceNegSucc, ↓vz_seq, e1, e3, e7, e61, h3]
              simp [b4, h3, HR]
            · simp only [go_sem, List.range', reduceIte, Nat.reduceLT, Nat.reduceAdd, Nat.reduceSub, Nat.reduceMul, Nat.reduceEqDiff, reduceCtorEq, Nat.reduceLeDiff, Int.reduceLT, Int.reduceLE, Int.reduceEq, Int.reduceAdd, Int.reduceToNat, Int.reduceNeg, Int.reduceNegSucc, ↓vz_seq, e1, e3, e7, e61, h3]
              refine brG_bool (fun h5 => ?_) (fun h5 => ?_)
              · simp only [go_sem, List.range', reduceIte, Nat.reduceLT, Nat.reduceAdd, Nat.reduceSub, Nat.reduceMul, Nat.reduceEqDiff, reduceCtorEq, Nat.reduceLeDiff, Int.reduceLT, Int.reduceLE, Int.reduceEq, Int.reduceAdd, Int.reduceToNat, Int.reduceNeg, Int.reduceNegSucc, ↓vz_seq, e1, e3, e7, e61, h3, h5]
                simp only [Bool.not_eq_true'] at h5
                simp [b4, h3, h5, HR]
                omega
              · simp only [go_sem, List.range', reduceIte, Nat.reduceLT, Nat.reduceAdd, Nat.reduceSub, Nat.reduceMul, Nat.reduceEqDiff, reduceCtorEq, Nat.reduceLeDiff, Int.reduceLT, Int.reduceLE, Int.reduceEq, Int.reduceAdd, Int.reduceToNat, Int.reduceNeg, Int.reduceNegSucc, ↓vz_seq, e1, e3, e7, e61, h3, h5]
                simp only [Bool.not_eq_false'] at h5
                simp [b4, h3, h5, HR]
    · rintro e h ⟨e1, e3, e7, e75, rfl⟩
      simp only [go_sem, List.range', reduceIte, Nat.reduceLT, Nat.reduceAdd, Nat.reduceSub, Nat.reduceMul, Nat.reduceEqDiff, reduceCtorEq, Nat.reduceLeDiff, Int.reduceLT, Int.reduceLE, Int.reduceEq, Int.reduceAdd, Int.reduceToNat, Int.reduceNeg, Int.reduceNegSucc, ↓vz_seq, e1, e3, e7, e75, HR]
      refine brB_bool (fun h3 => ?_) (fun h3 => ?_)
      · rw [if_pos h3] at hB
        simp only [go_sem, List.range', reduceIte, Nat.reduceLT, Nat.reduceAdd, Nat.reduceSub, Nat.reduceMul, Nat.reduceEqDiff, reduceCtorEq, Nat.reduceLeDiff, Int.reduceLT, Int.reduceLE, Int.reduceEq, Int.reduceAdd, Int.reduceToNat, Int.reduceNeg, Int.reduceNegSucc, ↓vz_seq, hB]
      rw [h3] at hB
      simp only [Bool.false_eq_true, if_false] at hB
      have hlenS : (shp op).many = false → t.a.length = (shp op).a.length := fun hm => by
        simp [b4, hm] at h3
        exact h3.2
      simp only [go_sem, List.range', reduceIte, Nat.reduceLT, Nat.reduceAdd, Nat.reduceSub, Nat.reduceMul, Nat.reduceEqDiff, reduceCtorEq, Nat.reduceLeDiff, Int.reduceLT, Int.reduceLE, Int.reduceEq, Int.reduceAdd, Int.reduceToNat, Int.reduceNeg, Int.reduceNegSucc, ↓vz_seq, e1, e3, e7]
      refine vz_loop (fun i => t.a.length - i) (fun i e h => res = rightL (t.a.drop i) (shp op) i ∧ i ≤ t.a.length ∧ e = E57 t i ∧ h = [.box SHc, .box [.pv (.int .i64 (shp op).sort), .pv (.bool (shp op).name), .pv (.bool (shp op).number), .pv (.sl ((shp op).a.map fun x => [.int .i64 x])), .pv (.bool (shp op).many)]]) 0 ?_ ?_
      · refine ⟨E57 t 0, _, Wk.perm [0, 2] (by simp) rfl (by simp only [go_sem, List.range', reduceIte, Nat.reduceLT, Nat.reduceAdd, Nat.reduceSub, Nat.reduceMul, Nat.reduceEqDiff, reduceCtorEq, Nat.reduceLeDiff, Int.reduceLT, Int.reduceLE, Int.reduceEq, Int.reduceAdd, Int.reduceToNat, Int.reduceNeg, Int.reduceNegSucc, ↓vz_seq, okH, AObj.lt, AV.lt, AV.ltL]) ?_, by simpa using hB, Nat.zero_le _, rfl, rfl⟩
        unfold E57
        repeat (first | exact okE_E0 | refine okE_put (by first | trivial | (simp [AV.lt, AV.ltL]; done)) (by first | (simp only [go_sem, List.range', reduceIte, Nat.reduceLT, Nat.reduceAdd, Nat.reduceSub, Nat.reduceMul, Nat.reduceEqDiff, reduceCtorEq, Nat.reduceLeDiff, Int.reduceLT, Int.reduceLE, Int.reduceEq, Int.reduceAdd, Int.reduceToNat, Int.reduceNeg, Int.reduceNegSucc, ↓vz_seq, e1, e3, e7]; done) | (simp only [go_sem, List.range', reduceIte, Nat.reduceLT, Nat.reduceAdd, Nat.reduceSub, Nat.reduceMul, Nat.reduceEqDiff, reduceCtorEq, Nat.reduceLeDiff, Int.reduceLT, Int.reduceLE, Int.reduceEq, Int.reduceAdd, Int.reduceToNat, Int.reduceNeg, Int.reduceNegSucc, ↓vz_seq, e1, e3, e7]; rfl)) ?_)
      · rintro i _ _ ⟨hRi, hi, rfl, rfl⟩
        simp only [go_sem, List.range', reduceIte, Nat.reduceLT, Nat.reduceAdd, Nat.reduceSub, Nat.reduceMul, Nat.reduceEqDiff, reduceCtorEq, Nat.reduceLeDiff, Int.reduceLT, Int.reduceLE, Int.reduceEq, Int.reduceAdd, Int.reduceToNat, Int.reduceNeg, Int.reduceNegSucc, ↓vz_seq, E57]
        refine brB_dec (fun hlt => ?_) (fun hge => ?_)
        · have hlt' : i < t.a.length := by omega
          have hx : t.a[i]? = some t.a[i] := List.getElem?_eq_getElem hlt'
          have hxd := Tm.depth_lt (List.getElem_mem hlt')
          rw [List.drop_eq_getElem_cons hlt', rightL] at hRi
          simp only [go_sem, List.range', reduceIte, Nat.reduceLT, Nat.reduceAdd, Nat.reduceSub, Nat.reduceMul, Nat.reduceEqDiff, reduceCtorEq, Nat.reduceLeDiff, Int.reduceLT, Int.reduceLE, Int.reduceEq, Int.reduceAdd, Int.reduceToNat, Int.reduceNeg, Int.reduceNegSucc, ↓vz_seq, hx, hlt, Int.natCast_nonneg, Tm.cells_eq]
          refine brB_bool (fun hy => ?_) (fun hy => ?_)
          · have hj : 0 < (shp op).a.length := by rw [shp_many op ho29 hy]; omega
            have hja : (shp op).a[0]? = some (shp op).a[0] := List.getElem?_eq_getElem hj
            have hjI : (0 : Int) < ((shp op).a.length : Int) := by omega
            rw [hy] at hRi
            simp only [Bool.false_eq_true, if_true, if_false, List.getD_eq_getElem?_getD, hja, Option.getD_some] at hRi
            simp only [go_sem, List.range', reduceIte, Nat.reduceLT, Nat.reduceAdd, Nat.reduceSub, Nat.reduceMul, Nat.reduceEqDiff, reduceCtorEq, Nat.reduceLeDiff, Int.reduceLT, Int.reduceLE, Int.reduceEq, Int.reduceAdd, Int.reduceToNat, Int.reduceNeg, Int.reduceNegSucc, ↓vz_seq]
            refine vz_draw 7 mixed (by kernel_rfl) ?_
            simp only [go_sem, List.range', reduceIte, Nat.reduceLT, Nat.reduceAdd, Nat.reduceSub, Nat.reduceMul, Nat.reduceEqDiff, reduceCtorEq, Nat.reduceLeDiff, Int.reduceLT, Int.reduceLE, Int.reduceEq, Int.reduceAdd, Int.reduceToNat, Int.reduceNeg, Int.reduceNegSucc, ↓vz_seq, hja, hjI, Int.natCast_nonneg, Int.toNat_natCast, Int.toNat_zero, Int.le_refl]
            refine RefK.callH (right_ref k t.a[i] (shp op).a[0] (by omega)) [0] (by simp) (by simp only [go_sem, List.range', reduceIte, Nat.reduceLT, Nat.reduceAdd, Nat.reduceSub, Nat.reduceMul, Nat.reduceEqDiff, reduceCtorEq, Nat.reduceLeDiff, Int.reduceLT, Int.reduceLE, Int.reduceEq, Int.reduceAdd, Int.reduceToNat, Int.reduceNeg, Int.reduceNegSucc, ↓vz_seq, okH, AObj.lt, AV.lt, AV.ltL]) (by simp [CR.lt, oltL, AObj.lt, AV.lt, AV.ltL]) (by first | (simp only [go_sem, List.range', reduceIte, Nat.reduceLT, Nat.reduceAdd, Nat.reduceSub, Nat.reduceMul, Nat.reduceEqDiff, reduceCtorEq, Nat.reduceLeDiff, Int.reduceLT, Int.reduceLE, Int.reduceEq, Int.reduceAdd, Int.reduceToNat, Int.reduceNeg, Int.reduceNegSucc, ↓vz_seq]; done) | (simp only [go_sem, List.range', reduceIte, Nat.reduceLT, Nat.reduceAdd, Nat.reduceSub, Nat.reduceMul, Nat.reduceEqDiff, reduceCtorEq, Nat.reduceLeDiff, Int.reduceLT, Int.reduceLE, Int.reduceEq, Int.reduceAdd, Int.reduceToNat, Int.reduceNeg, Int.reduceNegSucc, ↓vz_seq]; rfl)) ?_
            rintro r hs ⟨rfl, rfl⟩
            refine ⟨(by simp [CR.lt, oltL, AObj.lt, AV.lt, AV.ltL]), (by simp [CR.lt, oltL, AObj.lt, AV.lt, AV.ltL]), ?_⟩
            simp only [go_sem, List.range', reduceIte, Nat.reduceLT, Nat.reduceAdd, Nat.reduceSub, Nat.reduceMul, Nat.reduceEqDiff, reduceCtorEq, Nat.reduceLeDiff, Int.reduceLT, Int.reduceLE, Int.reduceEq, Int.reduceAdd, Int.reduceToNat, Int.reduceNeg, Int.reduceNegSucc, ↓vz_seq]
            refine brB_of (fun hz => ?_) (fun hz => ?_)
            · simp only [go_sem, List.range', reduceIte, Nat.reduceLT, Nat.reduceAdd, Nat.reduceSub, Nat.reduceMul, Nat.reduceEqDiff, reduceCtorEq, Nat.reduceLeDiff, Int.reduceLT, Int.reduceLE, Int.reduceEq, Int.reduceAdd, Int.reduceToNat, Int.reduceNeg, Int.reduceNegSucc, ↓vz_seq]
              simp only [Bool.not_eq_true'] at hz
              rw [hz, Bool.false_and] at hRi
              exact hRi.symm
            · simp only [go_sem, List.range', reduceIte, Nat.reduceLT, Nat.reduceAdd, Nat.reduceSub, Nat.reduceMul, Nat.reduceEqDiff, reduceCtorEq, Nat.reduceLeDiff, Int.reduceLT, Int.reduceLE, Int.reduceEq, Int.reduceAdd, Int.reduceToNat, Int.reduceNeg, Int.reduceNegSucc, ↓vz_seq]
              simp only [Bool.not_eq_false'] at hz
              rw [hz, Bool.true_and] at hRi
              rw [wrap_i64 (by omega)]
              refine ⟨i + 1, by omega, E57 t (i + 1), _, Wk.perm [0, 1] (by simp) rfl (by simp only [go_sem, List.range', reduceIte, Nat.reduceLT, Nat.reduceAdd, Nat.reduceSub, Nat.reduceMul, Nat.reduceEqDiff, reduceCtorEq, Nat.reduceLeDiff, Int.reduceLT, Int.reduceLE, Int.reduceEq, Int.reduceAdd, Int.reduceToNat, Int.reduceNeg, Int.reduceNegSucc, ↓vz_seq, okH, AObj.lt, AV.lt, AV.ltL]) ?_, hRi, hlt', rfl, rfl⟩
              unfold E57
              repeat (first | exact okE_E0 | refine okE_put (by first | trivial | (simp [AV.lt, AV.ltL]; done)) (by first | (simp only [go_sem, List.range', reduceIte, Nat.reduceLT, Nat.reduceAdd, Nat.reduceSub, Nat.reduceMul, Nat.reduceEqDiff, reduceCtorEq, Nat.reduceLeDiff, Int.reduceLT, Int.reduceLE, Int.reduceEq, Int.reduceAdd, Int.reduceToNat, Int.reduceNeg, Int.reduceNegSucc, ↓vz_seq]; done) | (simp only [go_sem, List.range', reduceIte, Nat.reduceLT, Nat.reduceAdd, Nat.reduceSub, Nat.reduceMul, Nat.reduceEqDiff, reduceCtorEq, Nat.reduceLeDiff, Int.reduceLT, Int.reduceLE, Int.reduceEq, Int.reduceAdd, Int.reduceToNat, Int.reduceNeg, Int.reduceNegSucc, ↓vz_seq]; rfl)) ?_)
          · have hj : i < (shp op).a.length := by rw [← hlenS hy]; exact hlt'
            have hja : (shp op).a[i]? = some (shp op).a[i] := List.getElem?_eq_getElem hj
            have hjI : ((i : Nat) : Int) < ((shp op).a.length : Int) := by omega
            rw [hy] at hRi
            simp only [Bool.false_eq_true, if_true, if_false, List.getD_eq_getElem?_getD, hja, Option.getD_some] at hRi
            simp only [go_sem, List.range', reduceIte, Nat.reduceLT, Nat.reduceAdd, Nat.reduceSub, Nat.reduceMul, Nat.reduceEqDiff, reduceCtorEq, Nat.reduceLeDiff, Int.reduceLT, Int.reduceLE, Int.reduceEq, Int.reduceAdd, Int.reduceToNat, Int.reduceNeg, Int.reduceNegSucc, ↓vz_seq]
            refine vz_draw 7 mixed (by kernel_rfl) ?_
            simp only [go_sem, List.range', reduceIte, Nat.reduceLT, Nat.reduceAdd, Nat.reduceSub, Nat.reduceMul, Nat.reduceEqDiff, reduceCtorEq, Nat.reduceLeDiff, Int.reduceLT, Int.reduceLE, Int.reduceEq, Int.reduceAdd, Int.reduceToNat, Int.reduceNeg, Int.reduceNegSucc, ↓vz_seq, hja, hjI, Int.natCast_nonneg, Int.toNat_natCast, Int.toNat_zero, Int.le_refl]
            refine RefK.callH (right_ref k t.a[i] (shp op).a[i] (by omega)) [0] (by simp) (by simp only [go_sem, List.range', reduceIte, Nat.reduceLT, Nat.reduceAdd, Nat.reduceSub, Nat.reduceMul, Nat.reduceEqDiff, reduceCtorEq, Nat.reduceLeDiff, Int.reduceLT, Int.reduceLE, Int.reduceEq, Int.reduceAdd, Int.reduceToNat, Int.reduceNeg, Int.reduceNegSucc, ↓vz_seq, okH, AObj.lt, AV.lt, AV.ltL]) (by simp [CR.lt, oltL, AObj.lt, AV.lt, AV.ltL]) (by first | (simp only [go_sem, List.range', reduceIte, Nat.reduceLT, Nat.reduceAdd, Nat.reduceSub, Nat.reduceMul, Nat.reduceEqDiff, reduceCtorEq, Nat.reduceLeDiff, Int.reduceLT, Int.reduceLE, Int.reduceEq, Int.reduceAdd, Int.reduceToNat, Int.reduceNeg, Int.reduceNegSucc, ↓vz_seq]; done) | (simp only [go_sem, List.range', reduceIte, Nat.reduceLT, Nat.reduceAdd, Nat.reduceSub, Nat.reduceMul, Nat.reduceEqDiff, reduceCtorEq, Nat.reduceLeDiff, Int.reduceLT, Int.reduceLE, Int.reduceEq, Int.reduceAdd, Int.reduceToNat, Int.reduceNeg, Int.reduceNegSucc, ↓vz_seq]; rfl)) ?_
            rintro r hs ⟨rfl, rfl⟩
            refine ⟨(by simp [CR.lt, oltL, AObj.lt, AV.lt, AV.ltL]), (by simp [CR.lt, oltL, AObj.lt, AV.lt, AV.ltL]), ?_⟩
            simp only [go_sem, List.range', reduceIte, Nat.reduceLT, Nat.reduceAdd, Nat.reduceSub, Nat.reduceMul, Nat.reduceEqDiff, reduceCtorEq, Nat.reduceLeDiff, Int.reduceLT, Int.reduceLE, Int.reduceEq, Int.reduceAdd, Int.reduceToNat, Int.reduceNeg, Int.reduceNegSucc, ↓vz_seq]
            refine brB_of (fun hz => ?_) (fun hz => ?_)
            · simp only [go_sem, List.range', reduceIte, Nat.reduceLT, Nat.reduceAdd, Nat.reduceSub, Nat.reduceMul, Nat.reduceEqDiff, reduceCtorEq, Nat.reduceLeDiff, Int.reduceLT, Int.reduceLE, Int.reduceEq, Int.reduceAdd, Int.reduceToNat, Int.reduceNeg, Int.reduceNegSucc, ↓vz_seq]
              simp only [Bool.not_eq_true'] at hz
              rw [hz, Bool.false_and] at hRi
              exact hRi.symm
            · simp only [go_sem, List.range', reduceIte, Nat.reduceLT, Nat.reduceAdd, Nat.reduceSub, Nat.reduceMul, Nat.reduceEqDiff, reduceCtorEq, Nat.reduceLeDiff, Int.reduceLT, Int.reduceLE, Int.reduceEq, Int.reduceAdd, Int.reduceToNat, Int.reduceNeg, Int.reduceNegSucc, ↓vz_seq]
              simp only [Bool.not_eq_false'] at hz
              rw [hz, Bool.true_and] at hRi
              rw [wrap_i64 (by omega)]
              refine ⟨i + 1, by omega, E57 t (i + 1), _, Wk.perm [0, 1] (by simp) rfl (by simp only [go_sem, List.range', reduceIte, Nat.reduceLT, Nat.reduceAdd, Nat.reduceSub, Nat.reduceMul, Nat.reduceEqDiff, reduceCtorEq, Nat.reduceLeDiff, Int.reduceLT, Int.reduceLE, Int.reduceEq, Int.reduceAdd, Int.reduceToNat, Int.reduceNeg, Int.reduceNegSucc, ↓vz_seq, okH, AObj.lt, AV.lt, AV.ltL]) ?_, hRi, hlt', rfl, rfl⟩
              unfold E57
              repeat (first | exact okE_E0 | refine okE_put (by first | trivial | (simp [AV.lt, AV.ltL]; done)) (by first | (simp only [go_sem, List.range', reduceIte, Nat.reduceLT, Nat.reduceAdd, Nat.reduceSub, Nat.reduceMul, Nat.reduceEqDiff, reduceCtorEq, Nat.reduceLeDiff, Int.reduceLT, Int.reduceLE, Int.reduceEq, Int.reduceAdd, Int.reduceToNat, Int.reduceNeg, Int.reduceNegSucc, ↓vz_seq]; done) | (simp only [go_sem, List.range', reduceIte, Nat.reduceLT, Nat.reduceAdd, Nat.reduceSub, Nat.reduceMul, Nat.reduceEqDiff, reduceCtorEq, Nat.reduceLeDiff, Int.reduceLT, Int.reduceLE, Int.reduceEq, Int.reduceAdd, Int.reduceToNat, Int.reduceNeg, Int.reduceNegSucc, ↓vz_seq]; rfl)) ?_)
        · simp only [go_sem, List.range', reduceIte, Nat.reduceLT, Nat.reduceAdd, Nat.reduceSub, Nat.reduceMul, Nat.reduceEqDiff, reduceCtorEq, Nat.reduceLeDiff, Int.reduceLT, Int.reduceLE, Int.reduceEq, Int.reduceAdd, Int.reduceToNat, Int.reduceNeg, Int.reduceNegSucc, ↓vz_seq]
          rw [List.drop_of_length_le (by omega), rightL] at hRi
          exact hRi.symm
end Go.Proofs.YtahamnipffckhaaDoor
