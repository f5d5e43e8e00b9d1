import Derived.Test.YtahamnipffckhaaDoorF17
import Derived.Test.YtahamnipffckhaaDoorIt
set_option linter.unusedVariables false
set_option linter.unusedSimpArgs false
namespace Go.Proofs.YtahamnipffckhaaDoor
open Go Go.RowKit
/-! subst.Put. -/
def asP (x : ByteArray × Tm) : List PV := .str x.1 :: x.2.cells
theorem asP_eq (x : ByteArray × Tm) : asP x = [.str x.1, .int .i64 x.2.op, .str x.2.name, .int .i64 x.2.n, .sl (x.2.a.map Tm.cells)] := by rw [asP, Tm.cells_eq]
def asc : List (ByteArray × Tm) → (ByteArray × Int) → Option Tm
  | [], _ => none
  | x :: r, key => if (sortT x.2).2 = 0 ∧ key = (x.1, (sortT x.2).1) then some x.2 else asc r key
def fstErr : List (ByteArray × Tm) → Int
  | [] => 0
  | x :: r => if (sortT x.2).2 = 0 then fstErr r else (sortT x.2).2
def zTm : Tm := .mk 0 ⟨#[]⟩ 0 []
def putOut (t : Tm) (l : List (ByteArray × Tm)) : Tm := (pT (gB (asc l) true) t 0).1
def putTop (t : Tm) (l : List (ByteArray × Tm)) : Tm × Int :=
  if (sortT t).2 = 0 then (if fstErr l = 0 then (if (sortT (putOut t l)).2 = 0 then (putOut t l, 0) else (zTm, (sortT (putOut t l)).2)) else (zTm, fstErr l)) else (zTm, (sortT t).2)
theorem wF_upd (w : ByteArray × Int → Option Tm) (s : ByteArray) (n : Int) (t : Tm) : mupd (wF w) (.si s n) (.pv t.pv) = wF (fun k => if k = (s, n) then some t else w k) := by
  funext k
  unfold mupd
  cases k with
  | si x m =>
    by_cases h : x = s ∧ m = n
    · obtain ⟨rfl, rfl⟩ := h; simp [wF]
    · have h1 : ¬ (Key.si x m = Key.si s n) := fun e => by cases e; exact h ⟨rfl, rfl⟩
      have h2 : ¬ ((x, m) = (s, n)) := fun e => by cases e; exact h ⟨rfl, rfl⟩
      rw [if_neg h1]
      simp only [wF, if_neg h2]
  | _ => simp [wF]
theorem wF_nil : (fun x => none : Key → Option AV) = wF (asc []) := by funext k; cases k <;> simp [wF, asc]
theorem backw_fn (es : List (List PV)) : FnK Tryd.prog 44 [.pv (.sl es)] [] 0 (fun r h' => r = .ret (.fn 70 [.ptr 0 0]) ∧ h' = [.box [.pv (.sl es)]]) := by
  refine fnK_of_vc Tryd.func44 rfl (by rfl) Tryd.ntmps44 (by simp) (by simp) ?_
  rw [Tryd.results44]
  simp only [go_sem, List.range', reduceIte, Nat.reduceLT, Nat.reduceAdd, Nat.reduceSub, Nat.reduceMul, Nat.reduceEqDiff, reduceCtorEq, Nat.reduceLeDiff, Int.reduceLT, Int.reduceLE, Int.reduceEq, Int.reduceAdd, Int.reduceToNat, Int.reduceNeg, Int.reduceNegSucc, ↓vz_seq]
@[go_sem] abbrev HP (t : Tm) (l : List (ByteArray × Tm)) (w : ByteArray × Int → Option Tm) : AHeap := [.box [.pv (.int .i64 t.op), .pv (.str t.name), .pv (.int .i64 t.n), .pv (.sl (t.a.map Tm.cells))], .box [.pv (.int .i64 0), .pv (.str ⟨#[]⟩), .pv (.int .i64 0), .nils], .mp 3 (wF w), .box [.mp 2], .box [.pv (.sl (l.map asP))]]
def EPt (t : Tm) (l : List (ByteArray × Tm)) : AEnv := ((((E0.put 1 (.pv (.sl (l.map asP)))).put 2 (.ptr 0 0)).put 4 (.ptr 1 0)).put 8 (.ptr 3 0)).put 32 (.fn 70 [.ptr 4 0])
def EPl (l : List (ByteArray × Tm)) (i : Nat) : AEnv := (((((E0.put 2 (.ptr 0 0)).put 4 (.ptr 1 0)).put 8 (.ptr 3 0)).put 50 (.pv (.sl (l.map asP)))).put 51 (.pv (.int .i64 (l.length : Int)))).put 52 (.pv (.int .i64 (i : Int)))
set_option maxHeartbeats 1000000 in
theorem Put_pure (t : Tm) (l : List (ByteArray × Tm)) : Pure Tryd.prog 18 [t.pv, .sl (l.map asP)] (.tup [(putTop t l).1.pv, .int .i64 (putTop t l).2]) := by
  refine Pure.fit (ent_of Tryd.func18 rfl (by rfl)) fun hfit => ?_
  simp only [fitL, fitP, List.length_map] at hfit
  have hlen : l.length ≤ 140737488355328 := by simp only [hfit]
  clear hfit
  generalize hres : putTop t l = res
  unfold putTop at hres
  refine pure_of_range (es := l.map asP) (sz := 5) (bx := 4) (m := 5) (JL := fun e h => e = EPt t l ∧ h = HP t l (asc []) ∧ (sortT t).2 = 0) (J := fun k h => h = HP t l (asc (l.drop (l.length - k))))
    (JA := fun k e h => e 8 = .ptr 3 0 ∧ e 10 = .ptr 5 0 ∧ ∃ x, l[l.length - 1 - k]? = some x ∧ h = HP t l (asc (l.drop (l.length - k))) ++ [.box ((asP x).map .pv)])
    Tryd.func18 rfl (by rfl) Tryd.ntmps18 Tryd.results18 (by simp) back_iter (fun c hc => ?_) (ent_of Tryd.func70 rfl (by rfl)) (by decide) (by decide) rfl rfl ?_ ?_ ?_ ?_ ?_ ?_
  · obtain ⟨x, _, rfl⟩ := List.mem_map.1 hc
    rw [asP_eq]; rfl
  · rintro e h ⟨rfl, rfl, _⟩
    refine ⟨by simp [opd, EPt, AEnv.put], rfl, ?_⟩
    simp [List.drop_length]
  · rintro k h rfl
    exact ⟨rfl, rfl⟩
  · simp only [go_sem, List.range', reduceIte, Nat.reduceLT, Nat.reduceAdd, Nat.reduceSub, Nat.reduceMul, Nat.reduceEqDiff, reduceCtorEq, Nat.reduceLeDiff, Int.reduceLT, Int.reduceLE, Int.reduceEq, Int.reduceAdd, Int.reduceToNat, Int.reduceNeg, Int.reduceNegSucc, ↓vz_seq]
    refine Pure.call (Sort_pure t) (by first | (simp only [go_sem, List.range', reduceIte, Nat.reduceLT, Nat.reduceAdd, Nat.reduceSub, Nat.reduceMul, Nat.reduceEqDiff, reduceCtorEq, Nat.reduceLeDiff, Int.reduceLT, Int.reduceLE, Int.reduceEq, Int.reduceAdd, Int.reduceToNat, Int.reduceNeg, Int.reduceNegSucc, ↓vz_seq]; done) | (simp only [go_sem, List.range', reduceIte, Nat.reduceLT, Nat.reduceAdd, Nat.reduceSub, Nat.reduceMul, Nat.reduceEqDiff, reduceCtorEq, Nat.reduceLeDiff, Int.reduceLT, Int.reduceLE, Int.reduceEq, Int.reduceAdd, Int.reduceToNat, Int.reduceNeg, Int.reduceNegSucc, ↓vz_seq]; rfl)) ?_
    simp only [go_sem, List.range', reduceIte, Nat.reduceLT, Nat.reduceAdd, Nat.reduceSub, Nat.reduceMul, Nat.reduceEqDiff, reduceCtorEq, Nat.reduceLeDiff, Int.reduceLT, Int.reduceLE, Int.reduceEq, Int.reduceAdd, Int.reduceToNat, Int.reduceNeg, Int.reduceNegSucc, ↓vz_seq]
    refine brB_decN (fun h1 => ?_) (fun h1 => ?_)
    · rw [if_neg h1] at hres
      simp only [go_sem, List.range', reduceIte, Nat.reduceLT, Nat.reduceAdd, Nat.reduceSub, Nat.reduceMul, Nat.reduceEqDiff, reduceCtorEq, Nat.reduceLeDiff, Int.reduceLT, Int.reduceLE, Int.reduceEq, Int.reduceAdd, Int.reduceToNat, Int.reduceNeg, Int.reduceNegSucc, ↓vz_seq]
      subst hres
      exact ⟨⟨rfl, rfl, rfl, rfl⟩, rfl⟩
    · simp only [go_sem, List.range', reduceIte, Nat.reduceLT, Nat.reduceAdd, Nat.reduceSub, Nat.reduceMul, Nat.reduceEqDiff, reduceCtorEq, Nat.reduceLeDiff, Int.reduceLT, Int.reduceLE, Int.reduceEq, Int.reduceAdd, Int.reduceToNat, Int.reduceNeg, Int.reduceNegSucc, ↓vz_seq]
      refine FnK.callN (backw_fn (l.map asP)) [] (by simp) (by simp) (by simp only [go_sem, List.range', reduceIte, Nat.reduceLT, Nat.reduceAdd, Nat.reduceSub, Nat.reduceMul, Nat.reduceEqDiff, reduceCtorEq, Nat.reduceLeDiff, Int.reduceLT, Int.reduceLE, Int.reduceEq, Int.reduceAdd, Int.reduceToNat, Int.reduceNeg, Int.reduceNegSucc, ↓vz_seq, okH, AObj.lt, AV.lt, AV.ltL]) (by simp [CR.lt, oltL, AObj.lt, AV.lt, AV.ltL]) (by first | (simp only [go_sem, List.range', reduceIte, Nat.reduceLT, Nat.reduceAdd, Nat.reduceSub, Nat.reduceMul, Nat.reduceEqDiff, reduceCtorEq, Nat.reduceLeDiff, Int.reduceLT, Int.reduceLE, Int.reduceEq, Int.reduceAdd, Int.reduceToNat, Int.reduceNeg, Int.reduceNegSucc, ↓vz_seq]; done) | (simp only [go_sem, List.range', reduceIte, Nat.reduceLT, Nat.reduceAdd, Nat.reduceSub, Nat.reduceMul, Nat.reduceEqDiff, reduceCtorEq, Nat.reduceLeDiff, Int.reduceLT, Int.reduceLE, Int.reduceEq, Int.reduceAdd, Int.reduceToNat, Int.reduceNeg, Int.reduceNegSucc, ↓vz_seq]; rfl)) ?_
      rintro r h'' ⟨rfl, rfl⟩
      simp only [go_sem, List.range', reduceIte, Nat.reduceLT, Nat.reduceAdd, Nat.reduceSub, Nat.reduceMul, Nat.reduceEqDiff, reduceCtorEq, Nat.reduceLeDiff, Int.reduceLT, Int.reduceLE, Int.reduceEq, Int.reduceAdd, Int.reduceToNat, Int.reduceNeg, Int.reduceNegSucc, ↓vz_seq, wF_nil]
      refine ⟨EPt t l, HP t l (asc []), Wk.perm [0, 1, 2, 3, 4] (by simp) rfl (by simp only [go_sem, List.range', reduceIte, Nat.reduceLT, Nat.reduceAdd, Nat.reduceSub, Nat.reduceMul, Nat.reduceEqDiff, reduceCtorEq, Nat.reduceLeDiff, Int.reduceLT, Int.reduceLE, Int.reduceEq, Int.reduceAdd, Int.reduceToNat, Int.reduceNeg, Int.reduceNegSucc, ↓vz_seq, okH, AObj.lt, AV.lt, AV.ltL]) ?_, rfl, rfl, h1⟩
      unfold EPt
      repeat (first | exact okE_E0 | refine okE_put (by first | trivial | (simp [AV.lt, AV.ltL]; done)) (by first | (simp only [go_sem, List.range', reduceIte, Nat.reduceLT, Nat.reduceAdd, Nat.reduceSub, Nat.reduceMul, Nat.reduceEqDiff, reduceCtorEq, Nat.reduceLeDiff, Int.reduceLT, Int.reduceLE, Int.reduceEq, Int.reduceAdd, Int.reduceToNat, Int.reduceNeg, Int.reduceNegSucc, ↓vz_seq]; done) | (simp only [go_sem, List.range', reduceIte, Nat.reduceLT, Nat.reduceAdd, Nat.reduceSub, Nat.reduceMul, Nat.reduceEqDiff, reduceCtorEq, Nat.reduceLeDiff, Int.reduceLT, Int.reduceLE, Int.reduceEq, Int.reduceAdd, Int.reduceToNat, Int.reduceNeg, Int.reduceNegSucc, ↓vz_seq]; rfl)) ?_)
  · rintro e h0 k h ⟨rfl, rfl, _⟩ hk rfl
    simp only [List.length_map] at hk ⊢
    obtain ⟨x, hx⟩ : ∃ x, l[l.length - 1 - k]? = some x := ⟨_, List.getElem?_eq_getElem (by omega)⟩
    have hgx : (l.map asP).getD (l.length - 1 - k) [] = [.str x.1, .int .i64 x.2.op, .str x.2.name, .int .i64 x.2.n, .sl (x.2.a.map Tm.cells)] := by
      rw [List.getD_eq_getElem?_getD, List.getElem?_map, hx]; exact asP_eq x
    rw [hgx]
    simp only [go_sem, List.range', reduceIte, Nat.reduceLT, Nat.reduceAdd, Nat.reduceSub, Nat.reduceMul, Nat.reduceEqDiff, reduceCtorEq, Nat.reduceLeDiff, Int.reduceLT, Int.reduceLE, Int.reduceEq, Int.reduceAdd, Int.reduceToNat, Int.reduceNeg, Int.reduceNegSucc, ↓vz_seq, EPt]
    refine ⟨x, hx, ?_⟩
    rw [asP_eq]
    rfl
  · rintro k e h hk ⟨e8, e10, x, hx, rfl⟩
    simp only [List.length_map] at hk
    have hstep : asc (l.drop (l.length - (k + 1))) = fun key => if (sortT x.2).2 = 0 ∧ key = (x.1, (sortT x.2).1) then some x.2 else asc (l.drop (l.length - k)) key := by
      have hil : l.length - 1 - k < l.length := by omega
      have hxe : l[l.length - 1 - k] = x := by rw [List.getElem?_eq_getElem hil] at hx; exact Option.some.inj hx
      rw [show l.length - (k + 1) = l.length - 1 - k by omega, List.drop_eq_getElem_cons hil, hxe, show l.length - 1 - k + 1 = l.length - k by omega]
      funext key
      rw [asc]
    rw [hstep]
    generalize asc (l.drop (l.length - k)) = w
    rw [asP_eq]
    simp only [go_sem, List.range', reduceIte, Nat.reduceLT, Nat.reduceAdd, Nat.reduceSub, Nat.reduceMul, Nat.reduceEqDiff, reduceCtorEq, Nat.reduceLeDiff, Int.reduceLT, Int.reduceLE, Int.reduceEq, Int.reduceAdd, Int.reduceToNat, Int.reduceNeg, Int.reduceNegSucc, ↓vz_seq, e8, e10, List.cons_append, List.nil_append, List.map_cons, List.map_nil]
    refine Pure.call (Sort_pure x.2) (by first | (simp only [go_sem, List.range', reduceIte, Nat.reduceLT, Nat.reduceAdd, Nat.reduceSub, Nat.reduceMul, Nat.reduceEqDiff, reduceCtorEq, Nat.reduceLeDiff, Int.reduceLT, Int.reduceLE, Int.reduceEq, Int.reduceAdd, Int.reduceToNat, Int.reduceNeg, Int.reduceNegSucc, ↓vz_seq]; done) | (simp only [go_sem, List.range', reduceIte, Nat.reduceLT, Nat.reduceAdd, Nat.reduceSub, Nat.reduceMul, Nat.reduceEqDiff, reduceCtorEq, Nat.reduceLeDiff, Int.reduceLT, Int.reduceLE, Int.reduceEq, Int.reduceAdd, Int.reduceToNat, Int.reduceNeg, Int.reduceNegSucc, ↓vz_seq]; rfl)) ?_
    simp only [go_sem, List.range', reduceIte, Nat.reduceLT, Nat.reduceAdd, Nat.reduceSub, Nat.reduceMul, Nat.reduceEqDiff, reduceCtorEq, Nat.reduceLeDiff, Int.reduceLT, Int.reduceLE, Int.reduceEq, Int.reduceAdd, Int.reduceToNat, Int.reduceNeg, Int.reduceNegSucc, ↓vz_seq, e8, e10]
    refine brB_dec (fun h1 => ?_) (fun h1 => ?_)
    · have hmu := wF_upd w x.1 (sortT x.2).1 x.2
      simp only [Tm.pv, Tm.cells_eq] at hmu
      simp only [go_sem, List.range', reduceIte, Nat.reduceLT, Nat.reduceAdd, Nat.reduceSub, Nat.reduceMul, Nat.reduceEqDiff, reduceCtorEq, Nat.reduceLeDiff, Int.reduceLT, Int.reduceLE, Int.reduceEq, Int.reduceAdd, Int.reduceToNat, Int.reduceNeg, Int.reduceNegSucc, ↓vz_seq, e8, e10, hmu, h1, true_and]
      exact ⟨E0, _, Wk.perm [0, 1, 2, 3, 4] (by simp) rfl (by simp only [go_sem, List.range', reduceIte, Nat.reduceLT, Nat.reduceAdd, Nat.reduceSub, Nat.reduceMul, Nat.reduceEqDiff, reduceCtorEq, Nat.reduceLeDiff, Int.reduceLT, Int.reduceLE, Int.reduceEq, Int.reduceAdd, Int.reduceToNat, Int.reduceNeg, Int.reduceNegSucc, ↓vz_seq, okH, AObj.lt, AV.lt, AV.ltL]) okE_E0, rfl⟩
    · simp only [go_sem, List.range', reduceIte, Nat.reduceLT, Nat.reduceAdd, Nat.reduceSub, Nat.reduceMul, Nat.reduceEqDiff, reduceCtorEq, Nat.reduceLeDiff, Int.reduceLT, Int.reduceLE, Int.reduceEq, Int.reduceAdd, Int.reduceToNat, Int.reduceNeg, Int.reduceNegSucc, ↓vz_seq, e8, e10, h1, false_and]
      exact ⟨E0, _, Wk.perm [0, 1, 2, 3, 4] (by simp) rfl (by simp only [go_sem, List.range', reduceIte, Nat.reduceLT, Nat.reduceAdd, Nat.reduceSub, Nat.reduceMul, Nat.reduceEqDiff, reduceCtorEq, Nat.reduceLeDiff, Int.reduceLT, Int.reduceLE, Int.reduceEq, Int.reduceAdd, Int.reduceToNat, Int.reduceNeg, Int.reduceNegSucc, ↓vz_seq, okH, AObj.lt, AV.lt, AV.ltL]) okE_E0, rfl⟩
  · rintro e h0 h ⟨rfl, rfl, hst⟩ rfl
    rw [if_pos hst] at hres
    simp only [List.length_map, Nat.sub_self, List.drop_zero]
    have hout : putOut t l = (pT (gB (asc l) true) t 0).1 := rfl
    generalize hw : asc l = w at hout ⊢
    simp only [go_sem, List.range', reduceIte, Nat.reduceLT, Nat.reduceAdd, Nat.reduceSub, Nat.reduceMul, Nat.reduceEqDiff, reduceCtorEq, Nat.reduceLeDiff, Int.reduceLT, Int.reduceLE, Int.reduceEq, Int.reduceAdd, Int.reduceToNat, Int.reduceNeg, Int.reduceNegSucc, ↓vz_seq, EPt, List.length_map]
    refine vz_loop (fun i => l.length - i) (fun i e h => fstErr l = fstErr (l.drop i) ∧ i ≤ l.length ∧ e = EPl l i ∧ h = HP t l w) 0 ?_ ?_
    · refine ⟨EPl l 0, _, Wk.perm [0, 1, 2, 3, 4] (by simp) rfl (by simp only [go_sem, List.range', reduceIte, Nat.reduceLT, Nat.reduceAdd, Nat.reduceSub, Nat.reduceMul, Nat.reduceEqDiff, reduceCtorEq, Nat.reduceLeDiff, Int.reduceLT, Int.reduceLE, Int.reduceEq, Int.reduceAdd, Int.reduceToNat, Int.reduceNeg, Int.reduceNegSucc, ↓vz_seq, okH, AObj.lt, AV.lt, AV.ltL]) ?_, rfl, Nat.zero_le _, rfl, rfl⟩
      unfold EPl
      repeat (first | exact okE_E0 | refine okE_put (by first | trivial | (simp [AV.lt, AV.ltL]; done)) (by first | (simp only [go_sem, List.range', reduceIte, Nat.reduceLT, Nat.reduceAdd, Nat.reduceSub, Nat.reduceMul, Nat.reduceEqDiff, reduceCtorEq, Nat.reduceLeDiff, Int.reduceLT, Int.reduceLE, Int.reduceEq, Int.reduceAdd, Int.reduceToNat, Int.reduceNeg, Int.reduceNegSucc, ↓vz_seq]; done) | (simp only [go_sem, List.range', reduceIte, Nat.reduceLT, Nat.reduceAdd, Nat.reduceSub, Nat.reduceMul, Nat.reduceEqDiff, reduceCtorEq, Nat.reduceLeDiff, Int.reduceLT, Int.reduceLE, Int.reduceEq, Int.reduceAdd, Int.reduceToNat, Int.reduceNeg, Int.reduceNegSucc, ↓vz_seq]; rfl)) ?_)
    · rintro i _ _ ⟨hfe, hi, rfl, rfl⟩
      simp only [go_sem, List.range', reduceIte, Nat.reduceLT, Nat.reduceAdd, Nat.reduceSub, Nat.reduceMul, Nat.reduceEqDiff, reduceCtorEq, Nat.reduceLeDiff, Int.reduceLT, Int.reduceLE, Int.reduceEq, Int.reduceAdd, Int.reduceToNat, Int.reduceNeg, Int.reduceNegSucc, ↓vz_seq, EPl]
      refine brB_dec (fun hlt => ?_) (fun hge => ?_)
      · have hlt' : i < l.length := by omega
        have hx : l[i]? = some l[i] := List.getElem?_eq_getElem hlt'
        rw [List.drop_eq_getElem_cons hlt', fstErr] at hfe
        simp only [go_sem, List.range', reduceIte, Nat.reduceLT, Nat.reduceAdd, Nat.reduceSub, Nat.reduceMul, Nat.reduceEqDiff, reduceCtorEq, Nat.reduceLeDiff, Int.reduceLT, Int.reduceLE, Int.reduceEq, Int.reduceAdd, Int.reduceToNat, Int.reduceNeg, Int.reduceNegSucc, ↓vz_seq, hx, hlt, Int.natCast_nonneg, asP_eq, List.length_map]
        refine Pure.call (Sort_pure l[i].2) (by first | (simp only [go_sem, List.range', reduceIte, Nat.reduceLT, Nat.reduceAdd, Nat.reduceSub, Nat.reduceMul, Nat.reduceEqDiff, reduceCtorEq, Nat.reduceLeDiff, Int.reduceLT, Int.reduceLE, Int.reduceEq, Int.reduceAdd, Int.reduceToNat, Int.reduceNeg, Int.reduceNegSucc, ↓vz_seq]; done) | (simp only [go_sem, List.range', reduceIte, Nat.reduceLT, Nat.reduceAdd, Nat.reduceSub, Nat.reduceMul, Nat.reduceEqDiff, reduceCtorEq, Nat.reduceLeDiff, Int.reduceLT, Int.reduceLE, Int.reduceEq, Int.reduceAdd, Int.reduceToNat, Int.reduceNeg, Int.reduceNegSucc, ↓vz_seq]; rfl)) ?_
        simp only [go_sem, List.range', reduceIte, Nat.reduceLT, Nat.reduceAdd, Nat.reduceSub, Nat.reduceMul, Nat.reduceEqDiff, reduceCtorEq, Nat.reduceLeDiff, Int.reduceLT, Int.reduceLE, Int.reduceEq, Int.reduceAdd, Int.reduceToNat, Int.reduceNeg, Int.reduceNegSucc, ↓vz_seq]
        refine brB_decN (fun h1 => ?_) (fun h1 => ?_)
        · rw [if_neg h1] at hfe
          simp only [go_sem, List.range', reduceIte, Nat.reduceLT, Nat.reduceAdd, Nat.reduceSub, Nat.reduceMul, Nat.reduceEqDiff, reduceCtorEq, Nat.reduceLeDiff, Int.reduceLT, Int.reduceLE, Int.reduceEq, Int.reduceAdd, Int.reduceToNat, Int.reduceNeg, Int.reduceNegSucc, ↓vz_seq]
          rw [if_neg (by rw [hfe]; exact h1), hfe] at hres
          subst hres
          exact ⟨⟨rfl, rfl, rfl, rfl⟩, rfl⟩
        · rw [if_pos h1] at hfe
          simp only [go_sem, List.range', reduceIte, Nat.reduceLT, Nat.reduceAdd, Nat.reduceSub, Nat.reduceMul, Nat.reduceEqDiff, reduceCtorEq, Nat.reduceLeDiff, Int.reduceLT, Int.reduceLE, Int.reduceEq, Int.reduceAdd, Int.reduceToNat, Int.reduceNeg, Int.reduceNegSucc, ↓vz_seq]
          rw [wrap_i64 (by omega)]
          refine ⟨i + 1, by omega, EPl l (i + 1), _, Wk.perm [0, 1, 2, 3, 4] (by simp) rfl (by simp only [go_sem, List.range', reduceIte, Nat.reduceLT, Nat.reduceAdd, Nat.reduceSub, Nat.reduceMul, Nat.reduceEqDiff, reduceCtorEq, Nat.reduceLeDiff, Int.reduceLT, Int.reduceLE, Int.reduceEq, Int.reduceAdd, Int.reduceToNat, Int.reduceNeg, Int.reduceNegSucc, ↓vz_seq, okH, AObj.lt, AV.lt, AV.ltL]) ?_, hfe, hlt', rfl, rfl⟩
          unfold EPl
          repeat (first | exact okE_E0 | refine okE_put (by first | trivial | (simp [AV.lt, AV.ltL]; done)) (by first | (simp only [go_sem, List.range', reduceIte, Nat.reduceLT, Nat.reduceAdd, Nat.reduceSub, Nat.reduceMul, Nat.reduceEqDiff, reduceCtorEq, Nat.reduceLeDiff, Int.reduceLT, Int.reduceLE, Int.reduceEq, Int.reduceAdd, Int.reduceToNat, Int.reduceNeg, Int.reduceNegSucc, ↓vz_seq]; done) | (simp only [go_sem, List.range', reduceIte, Nat.reduceLT, Nat.reduceAdd, Nat.reduceSub, Nat.reduceMul, Nat.reduceEqDiff, reduceCtorEq, Nat.reduceLeDiff, Int.reduceLT, Int.reduceLE, Int.reduceEq, Int.reduceAdd, Int.reduceToNat, Int.reduceNeg, Int.reduceNegSucc, ↓vz_seq]; rfl)) ?_)
      · rw [List.drop_of_length_le (by omega), fstErr] at hfe
        simp only [go_sem, List.range', reduceIte, Nat.reduceLT, Nat.reduceAdd, Nat.reduceSub, Nat.reduceMul, Nat.reduceEqDiff, reduceCtorEq, Nat.reduceLeDiff, Int.reduceLT, Int.reduceLE, Int.reduceEq, Int.reduceAdd, Int.reduceToNat, Int.reduceNeg, Int.reduceNegSucc, ↓vz_seq]
        refine RefK.callH (put1 w t 0 (by omega)) [5, 2] (by simp) (by simp only [go_sem, List.range', reduceIte, Nat.reduceLT, Nat.reduceAdd, Nat.reduceSub, Nat.reduceMul, Nat.reduceEqDiff, reduceCtorEq, Nat.reduceLeDiff, Int.reduceLT, Int.reduceLE, Int.reduceEq, Int.reduceAdd, Int.reduceToNat, Int.reduceNeg, Int.reduceNegSucc, ↓vz_seq, okH, AObj.lt, AV.lt, AV.ltL, Int.ofNat_zero]) (by simp [CR.lt, oltL, AObj.lt, AV.lt, AV.ltL]) (by first | (simp only [go_sem, List.range', reduceIte, Nat.reduceLT, Nat.reduceAdd, Nat.reduceSub, Nat.reduceMul, Nat.reduceEqDiff, reduceCtorEq, Nat.reduceLeDiff, Int.reduceLT, Int.reduceLE, Int.reduceEq, Int.reduceAdd, Int.reduceToNat, Int.reduceNeg, Int.reduceNegSucc, ↓vz_seq]; done) | (simp only [go_sem, List.range', reduceIte, Nat.reduceLT, Nat.reduceAdd, Nat.reduceSub, Nat.reduceMul, Nat.reduceEqDiff, reduceCtorEq, Nat.reduceLeDiff, Int.reduceLT, Int.reduceLE, Int.reduceEq, Int.reduceAdd, Int.reduceToNat, Int.reduceNeg, Int.reduceNegSucc, ↓vz_seq]; rfl)) ?_
        rintro r hs ⟨rfl, rfl⟩
        refine ⟨(by simp only [go_sem, List.range', reduceIte, Nat.reduceLT, Nat.reduceAdd, Nat.reduceSub, Nat.reduceMul, Nat.reduceEqDiff, reduceCtorEq, Nat.reduceLeDiff, Int.reduceLT, Int.reduceLE, Int.reduceEq, Int.reduceAdd, Int.reduceToNat, Int.reduceNeg, Int.reduceNegSucc, ↓vz_seq, CR.lt, oltL, AObj.lt, AV.lt, AV.ltL]), (by simp only [go_sem, List.range', reduceIte, Nat.reduceLT, Nat.reduceAdd, Nat.reduceSub, Nat.reduceMul, Nat.reduceEqDiff, reduceCtorEq, Nat.reduceLeDiff, Int.reduceLT, Int.reduceLE, Int.reduceEq, Int.reduceAdd, Int.reduceToNat, Int.reduceNeg, Int.reduceNegSucc, ↓vz_seq, CR.lt, oltL, AObj.lt, AV.lt, AV.ltL]), ?_⟩
        rw [← hout]
        generalize putOut t l = out at hres
        simp only [go_sem, List.range', reduceIte, Nat.reduceLT, Nat.reduceAdd, Nat.reduceSub, Nat.reduceMul, Nat.reduceEqDiff, reduceCtorEq, Nat.reduceLeDiff, Int.reduceLT, Int.reduceLE, Int.reduceEq, Int.reduceAdd, Int.reduceToNat, Int.reduceNeg, Int.reduceNegSucc, ↓vz_seq]
        refine Pure.call (Sort_pure out) (by first | (simp only [go_sem, List.range', reduceIte, Nat.reduceLT, Nat.reduceAdd, Nat.reduceSub, Nat.reduceMul, Nat.reduceEqDiff, reduceCtorEq, Nat.reduceLeDiff, Int.reduceLT, Int.reduceLE, Int.reduceEq, Int.reduceAdd, Int.reduceToNat, Int.reduceNeg, Int.reduceNegSucc, ↓vz_seq]; done) | (simp only [go_sem, List.range', reduceIte, Nat.reduceLT, Nat.reduceAdd, Nat.reduceSub, Nat.reduceMul, Nat.reduceEqDiff, reduceCtorEq, Nat.reduceLeDiff, Int.reduceLT, Int.reduceLE, Int.reduceEq, Int.reduceAdd, Int.reduceToNat, Int.reduceNeg, Int.reduceNegSucc, ↓vz_seq]; rfl)) ?_
        rw [if_pos hfe] at hres
        simp only [go_sem, List.range', reduceIte, Nat.reduceLT, Nat.reduceAdd, Nat.reduceSub, Nat.reduceMul, Nat.reduceEqDiff, reduceCtorEq, Nat.reduceLeDiff, Int.reduceLT, Int.reduceLE, Int.reduceEq, Int.reduceAdd, Int.reduceToNat, Int.reduceNeg, Int.reduceNegSucc, ↓vz_seq]
        refine brB_decN (fun h1 => ?_) (fun h1 => ?_)
        · rw [if_neg h1] at hres
          simp only [go_sem, List.range', reduceIte, Nat.reduceLT, Nat.reduceAdd, Nat.reduceSub, Nat.reduceMul, Nat.reduceEqDiff, reduceCtorEq, Nat.reduceLeDiff, Int.reduceLT, Int.reduceLE, Int.reduceEq, Int.reduceAdd, Int.reduceToNat, Int.reduceNeg, Int.reduceNegSucc, ↓vz_seq]
          subst hres
          exact ⟨⟨rfl, rfl, rfl, rfl⟩, rfl⟩
        · rw [if_pos h1] at hres
          simp only [go_sem, List.range', reduceIte, Nat.reduceLT, Nat.reduceAdd, Nat.reduceSub, Nat.reduceMul, Nat.reduceEqDiff, reduceCtorEq, Nat.reduceLeDiff, Int.reduceLT, Int.reduceLE, Int.reduceEq, Int.reduceAdd, Int.reduceToNat, Int.reduceNeg, Int.reduceNegSucc, ↓vz_seq]
          subst hres
          exact ⟨⟨rfl, rfl, rfl, rfl⟩, rfl⟩
end Go.Proofs.YtahamnipffckhaaDoor
