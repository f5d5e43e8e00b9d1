import Derived.Test.YtahamnipffckhaaDoorF15
set_option linter.unusedVariables false
set_option linter.unusedSimpArgs false
namespace Go.Proofs.YtahamnipffckhaaDoor
open Go Go.RowKit
/-! subst.Fresh. -/
theorem vz_cutN {P : Program} {N pin : Nat} {Q : AQ} (n : Nat) (J : AEnv → AHeap → Prop) {k : List It} {e : AEnv} {h : AHeap} (h1 : VcZ true P N pin Q (k.take n ++ .back J :: k.drop n) e h) (h2 : ∀ e h, J e h → VcZ true P N pin Q (k.drop n) e h) : VcZ true P N pin Q k e h := by
  have R : Repl P N pin Q (.back J :: k.drop n) (k.drop n) := by
    refine ⟨fun e h hv => ?_, fun x e h ha => ?_, fun id k' hp => hp⟩
    · rw [vc_back] at hv; exact h2 e h hv
    · cases x with
      | norm => simp only [After] at ha; exact Vc.sound (h2 e h ha)
      | exit id => simp only [After] at ha ⊢; exact ha
      | ret => simp only [After] at ha ⊢; exact ha
      | pan p => simp only [After] at ha ⊢; exact ha
  have := Vc.repl R h1 (k.take n) rfl
  rwa [List.take_append_drop] at this
def tkF (tk : ByteArray → Bool) : Key → Option AV
  | .str s => if tk s then some (.pv (.bool true)) else none
  | _ => none
theorem tkF_upd (tk : ByteArray → Bool) (s : ByteArray) : mupd (tkF tk) (.str s) (.pv (.bool true)) = tkF (fun x => tk x || decide (x = s)) := by
  funext k
  unfold mupd
  cases k with
  | str x =>
    by_cases h : x = s
    · subst h; simp [tkF]
    · simp [tkF, h]
  | _ => simp [tkF]
theorem zero1 : (fun x => none : Key → Option AV) = tkF (fun _ => false) := by funext k; cases k <;> simp [tkF]
theorem tkF_lt (tk : ByteArray → Bool) (n : Nat) : (∀ (k : Key) (v : AV), tkF tk k = some v → v.lt n) = True := by
  refine eq_true fun k v h => ?_
  cases k with
  | str s => simp only [tkF] at h; split at h <;> cases h; trivial
  | _ => simp [tkF] at h
theorem tkF_ren (tk : ByteArray → Bool) (r : Nat → Nat) : (fun k => Option.map (AV.ren r) (tkF tk k)) = tkF tk := by
  funext k
  cases k with
  | str s => simp only [tkF]; split <;> rfl
  | _ => simp [tkF]
theorem insN_len (x : ByteArray × Int) : ∀ l, (insN x l).length ≤ l.length + 1
  | [] => by simp [insN]
  | y :: r => by
    have := insN_len x r
    simp only [insN]
    split
    · simp
    · split <;> simp <;> omega
theorem namesOf_len (t : Tm) : (namesOf t).length ≤ 2000 := by
  unfold namesOf
  split
  · rename_i h
    have h1 := (sortT_ok h).1
    have h2 := nmT_len t
    have h3 : ∀ l : List (ByteArray × Int), (l.foldr insN []).length ≤ l.length := fun l => by
      induction l with
      | nil => simp
      | cons y r ih => simp only [List.foldr_cons, List.length_cons]; have := insN_len y (r.foldr insN []); omega
    have := h3 (nmT t)
    unfold namesT
    omega
  · simp
def isX (nm : ByteArray) : ByteArray := if nameB nm then nm else ⟨#[120]⟩
def tkL (l : List (ByteArray × Int)) (tk : ByteArray → Bool) : ByteArray → Bool := fun x => tk x || l.any fun y => decide (y.1 = x)
def tkT (l : List Tm) (tk : ByteArray → Bool) : ByteArray → Bool := fun x => tk x || l.any fun t => freeT t x
@[go_sem] abbrev HM (tk : ByteArray → Bool) : AHeap := [.mp 1 (tkF tk)]
def E16 (nm : ByteArray) (ts : List Tm) (i : Nat) : AEnv := ((((E0.put 1 (.pv (.str nm))).put 5 (.mp 0)).put 16 (.pv (.sl (ts.map Tm.cells)))).put 17 (.pv (.int .i64 (ts.length : Int)))).put 18 (.pv (.int .i64 (i : Int)))
def E16b (nm : ByteArray) (ts : List Tm) (i : Nat) (es : List (ByteArray × Int)) (j : Nat) : AEnv := (((E16 nm ts i).put 23 (.pv (.sl (es.map entP)))).put 24 (.pv (.int .i64 (es.length : Int)))).put 25 (.pv (.int .i64 (j : Int)))
def nextN (nm : ByteArray) (k : Nat) : ByteArray := nm.extract 0 (min nm.size 13) ++ ⟨#[95]⟩ ++ ⟨(Lib.decDigits k).toArray⟩
def frL (tk : ByteArray → Bool) (nm : ByteArray) : Nat → Nat → ByteArray → ByteArray
  | 0, _, last => last
  | n + 1, k, _ => if tk (nextN nm k) then frL tk nm n (k + 1) (nextN nm k) else nextN nm k
def freshL (tk : ByteArray → Bool) (nm : ByteArray) : ByteArray := if tk nm then frL tk nm 100 0 ⟨#[]⟩ else nm
def freshT (ts : List Tm) (nm : ByteArray) : ByteArray := freshL (tkT ts fun _ => false) (isX nm)
def E16c (nm last : ByteArray) (k : Nat) : AEnv := (((E0.put 1 (.pv (.str nm))).put 5 (.mp 0)).put 10 (.pv (.str last))).put 39 (.pv (.int .i64 (k : Int)))
theorem itoa_pure (k : Nat) (h : k < 100) : Pure Tryd.prog 41 [.int .i64 (k : Int)] (.str ⟨(Lib.decDigits k).toArray⟩) :=
  pure_of_calls (ent_of Tryd.func41 rfl (by rfl)) (fun w I vs h => by simp only [relL, rel] at h; obtain ⟨_, _, rfl, rfl, rfl⟩ := h; rfl) (fun w I => by simp only [rel])
    (fun w => (Tryd.strconv_Itoa_small k h w).mono fun e w' ⟨h1, h2⟩ => ⟨h1, by rw [h2]; exact ⟨Below.refl _ _, Nat.le_refl _⟩⟩)
theorem digs_len : ∀ k : Nat, k < 100 → (⟨(Lib.decDigits k).toArray⟩ : ByteArray).size ≤ 2 := by
  intro k hk
  show ((Lib.decDigits k).toArray).size ≤ 2
  rw [List.size_toArray, Lib.decDigits]
  split
  · simp
  · rw [Lib.decDigits, dif_pos (by omega)]
    simp
theorem Fresh_pure (ts : List Tm) (nm : ByteArray) : Pure Tryd.prog 16 [.sl (ts.map Tm.cells), .str nm] (.str (freshT ts nm)) := by
  refine Pure.fit (ent_of Tryd.func16 rfl (by rfl)) fun hfit => ?_
  simp only [fitL, fitP, List.length_map] at hfit
  have hlen : ts.length ≤ 140737488355328 := hfit.1.1
  refine pure_of Tryd.func16 rfl (by rfl) Tryd.ntmps16 Tryd.results16 (by simp) ?_
  generalize hres : freshT ts nm = res
  unfold freshT at hres
  simp only [go_sem, List.range', reduceIte, Nat.reduceLT, Nat.reduceAdd, Nat.reduceSub, Nat.reduceMul, Nat.reduceEqDiff, reduceCtorEq, Nat.reduceLeDiff, Int.reduceLT, Int.reduceLE, Int.reduceEq, Int.reduceAdd, Int.reduceToNat, Int.reduceNeg, Int.reduceNegSucc, ↓vz_seq]
  refine Pure.call (Name_pure nm) (by first | (simp only [go_sem, List.range', reduceIte, Nat.reduceLT, Nat.reduceAdd, Nat.reduceSub, Nat.reduceMul, Nat.reduceEqDiff, reduceCtorEq, Nat.reduceLeDiff, Int.reduceLT, Int.reduceLE, Int.reduceEq, Int.reduceAdd, Int.reduceToNat, Int.reduceNeg, Int.reduceNegSucc, ↓vz_seq]; done) | (simp only [go_sem, List.range', reduceIte, Nat.reduceLT, Nat.reduceAdd, Nat.reduceSub, Nat.reduceMul, Nat.reduceEqDiff, reduceCtorEq, Nat.reduceLeDiff, Int.reduceLT, Int.reduceLE, Int.reduceEq, Int.reduceAdd, Int.reduceToNat, Int.reduceNeg, Int.reduceNegSucc, ↓vz_seq]; rfl)) ?_
  refine vz_cutN 2 (fun e h => e 0 = .pv (.sl (ts.map Tm.cells)) ∧ e 1 = .pv (.str (isX nm)) ∧ h = []) ?_ ?_
  · simp only [List.take_succ_cons, List.take_zero, List.drop_succ_cons, List.drop_zero, List.cons_append, List.nil_append]
    simp only [go_sem, List.range', reduceIte, Nat.reduceLT, Nat.reduceAdd, Nat.reduceSub, Nat.reduceMul, Nat.reduceEqDiff, reduceCtorEq, Nat.reduceLeDiff, Int.reduceLT, Int.reduceLE, Int.reduceEq, Int.reduceAdd, Int.reduceToNat, Int.reduceNeg, Int.reduceNegSucc, ↓vz_seq]
    unfold isX
    cases nameB nm with
    | true =>
      simp only [go_sem, List.range', reduceIte, Nat.reduceLT, Nat.reduceAdd, Nat.reduceSub, Nat.reduceMul, Nat.reduceEqDiff, reduceCtorEq, Nat.reduceLeDiff, Int.reduceLT, Int.reduceLE, Int.reduceEq, Int.reduceAdd, Int.reduceToNat, Int.reduceNeg, Int.reduceNegSucc, ↓vz_seq]
    | false =>
      simp only [go_sem, List.range', reduceIte, Nat.reduceLT, Nat.reduceAdd, Nat.reduceSub, Nat.reduceMul, Nat.reduceEqDiff, reduceCtorEq, Nat.reduceLeDiff, Int.reduceLT, Int.reduceLE, Int.reduceEq, Int.reduceAdd, Int.reduceToNat, Int.reduceNeg, Int.reduceNegSucc, ↓vz_seq]
  · rintro e0 _ ⟨e0h, e1h, rfl⟩
    simp only [List.drop_succ_cons, List.drop_zero]
    generalize isX nm = nm at *
    simp only [go_sem, List.range', reduceIte, Nat.reduceLT, Nat.reduceAdd, Nat.reduceSub, Nat.reduceMul, Nat.reduceEqDiff, reduceCtorEq, Nat.reduceLeDiff, Int.reduceLT, Int.reduceLE, Int.reduceEq, Int.reduceAdd, Int.reduceToNat, Int.reduceNeg, Int.reduceNegSucc, ↓vz_seq, e0h, e1h, zero1]
    refine vz_loop (fun i => ts.length - i) (fun i e h => ∃ tk, tkT (ts.drop i) tk = tkT ts (fun _ => false) ∧ i ≤ ts.length ∧ e = E16 nm ts i ∧ h = HM tk) 0 ?_ ?_
    · refine ⟨E16 nm ts 0, HM (fun _ => false), Wk.perm [0] (by simp) rfl ?_ ?_, fun _ => false, rfl, Nat.zero_le _, rfl, rfl⟩
      · simp only [go_sem, List.range', reduceIte, Nat.reduceLT, Nat.reduceAdd, Nat.reduceSub, Nat.reduceMul, Nat.reduceEqDiff, reduceCtorEq, Nat.reduceLeDiff, Int.reduceLT, Int.reduceLE, Int.reduceEq, Int.reduceAdd, Int.reduceToNat, Int.reduceNeg, Int.reduceNegSucc, ↓vz_seq, okH, AObj.lt, AV.lt, AV.ltL, zero1, tkF_lt, tkF_ren]
      · unfold E16
        repeat (first | exact okE_E0 | refine okE_put (by first | trivial | (simp [AV.lt, AV.ltL]; done)) (by first | (simp only [go_sem, List.range', reduceIte, Nat.reduceLT, Nat.reduceAdd, Nat.reduceSub, Nat.reduceMul, Nat.reduceEqDiff, reduceCtorEq, Nat.reduceLeDiff, Int.reduceLT, Int.reduceLE, Int.reduceEq, Int.reduceAdd, Int.reduceToNat, Int.reduceNeg, Int.reduceNegSucc, ↓vz_seq, e1h]; done) | (simp only [go_sem, List.range', reduceIte, Nat.reduceLT, Nat.reduceAdd, Nat.reduceSub, Nat.reduceMul, Nat.reduceEqDiff, reduceCtorEq, Nat.reduceLeDiff, Int.reduceLT, Int.reduceLE, Int.reduceEq, Int.reduceAdd, Int.reduceToNat, Int.reduceNeg, Int.reduceNegSucc, ↓vz_seq, e1h]; rfl)) ?_)
    · rintro i _ _ ⟨tk, htk, hi, rfl, rfl⟩
      simp only [go_sem, List.range', reduceIte, Nat.reduceLT, Nat.reduceAdd, Nat.reduceSub, Nat.reduceMul, Nat.reduceEqDiff, reduceCtorEq, Nat.reduceLeDiff, Int.reduceLT, Int.reduceLE, Int.reduceEq, Int.reduceAdd, Int.reduceToNat, Int.reduceNeg, Int.reduceNegSucc, ↓vz_seq, E16, List.length_map]
      refine brB_dec (fun hlt => ?_) (fun hge => ?_)
      · have hlt' : i < ts.length := by omega
        have hx : ts[i]? = some ts[i] := List.getElem?_eq_getElem hlt'
        simp only [go_sem, List.range', reduceIte, Nat.reduceLT, Nat.reduceAdd, Nat.reduceSub, Nat.reduceMul, Nat.reduceEqDiff, reduceCtorEq, Nat.reduceLeDiff, Int.reduceLT, Int.reduceLE, Int.reduceEq, Int.reduceAdd, Int.reduceToNat, Int.reduceNeg, Int.reduceNegSucc, ↓vz_seq, hx, hlt, Int.natCast_nonneg, Tm.cells_eq]
        refine Pure.call (Names_pure ts[i]) (by first | (simp only [go_sem, List.range', reduceIte, Nat.reduceLT, Nat.reduceAdd, Nat.reduceSub, Nat.reduceMul, Nat.reduceEqDiff, reduceCtorEq, Nat.reduceLeDiff, Int.reduceLT, Int.reduceLE, Int.reduceEq, Int.reduceAdd, Int.reduceToNat, Int.reduceNeg, Int.reduceNegSucc, ↓vz_seq]; done) | (simp only [go_sem, List.range', reduceIte, Nat.reduceLT, Nat.reduceAdd, Nat.reduceSub, Nat.reduceMul, Nat.reduceEqDiff, reduceCtorEq, Nat.reduceLeDiff, Int.reduceLT, Int.reduceLE, Int.reduceEq, Int.reduceAdd, Int.reduceToNat, Int.reduceNeg, Int.reduceNegSucc, ↓vz_seq]; rfl)) ?_
        simp only [go_sem, List.range', reduceIte, Nat.reduceLT, Nat.reduceAdd, Nat.reduceSub, Nat.reduceMul, Nat.reduceEqDiff, reduceCtorEq, Nat.reduceLeDiff, Int.reduceLT, Int.reduceLE, Int.reduceEq, Int.reduceAdd, Int.reduceToNat, Int.reduceNeg, Int.reduceNegSucc, ↓vz_seq]
        have hes : (namesOf ts[i]).length ≤ 140737488355328 := Nat.le_trans (namesOf_len _) (by decide)
        generalize hgen : namesOf ts[i] = es at hes
        refine vz_loop (fun j => es.length - j) (fun j e h => ∃ tk', tkL (es.drop j) tk' = tkL es tk ∧ j ≤ es.length ∧ e = E16b nm ts i es j ∧ h = HM tk') 0 ?_ ?_
        · refine ⟨E16b nm ts i es 0, HM tk, Wk.perm [0] (by simp) rfl (by simp only [go_sem, List.range', reduceIte, Nat.reduceLT, Nat.reduceAdd, Nat.reduceSub, Nat.reduceMul, Nat.reduceEqDiff, reduceCtorEq, Nat.reduceLeDiff, Int.reduceLT, Int.reduceLE, Int.reduceEq, Int.reduceAdd, Int.reduceToNat, Int.reduceNeg, Int.reduceNegSucc, ↓vz_seq, okH, AObj.lt, AV.lt, AV.ltL, tkF_lt, tkF_ren]) ?_, tk, rfl, Nat.zero_le _, rfl, rfl⟩
          unfold E16b E16
          repeat (first | exact okE_E0 | refine okE_put (by first | trivial | (simp [AV.lt, AV.ltL]; done)) (by first | (simp only [go_sem, List.range', reduceIte, Nat.reduceLT, Nat.reduceAdd, Nat.reduceSub, Nat.reduceMul, Nat.reduceEqDiff, reduceCtorEq, Nat.reduceLeDiff, Int.reduceLT, Int.reduceLE, Int.reduceEq, Int.reduceAdd, Int.reduceToNat, Int.reduceNeg, Int.reduceNegSucc, ↓vz_seq]; done) | (simp only [go_sem, List.range', reduceIte, Nat.reduceLT, Nat.reduceAdd, Nat.reduceSub, Nat.reduceMul, Nat.reduceEqDiff, reduceCtorEq, Nat.reduceLeDiff, Int.reduceLT, Int.reduceLE, Int.reduceEq, Int.reduceAdd, Int.reduceToNat, Int.reduceNeg, Int.reduceNegSucc, ↓vz_seq]; rfl)) ?_)
        · rintro j _ _ ⟨tk', htk', hj, rfl, rfl⟩
          simp only [go_sem, List.range', reduceIte, Nat.reduceLT, Nat.reduceAdd, Nat.reduceSub, Nat.reduceMul, Nat.reduceEqDiff, reduceCtorEq, Nat.reduceLeDiff, Int.reduceLT, Int.reduceLE, Int.reduceEq, Int.reduceAdd, Int.reduceToNat, Int.reduceNeg, Int.reduceNegSucc, ↓vz_seq, E16b, E16, List.length_map]
          refine brB_dec (fun hjl => ?_) (fun hjg => ?_)
          · have hjl' : j < es.length := by omega
            have hy : es[j]? = some es[j] := List.getElem?_eq_getElem hjl'
            simp only [go_sem, List.range', reduceIte, Nat.reduceLT, Nat.reduceAdd, Nat.reduceSub, Nat.reduceMul, Nat.reduceEqDiff, reduceCtorEq, Nat.reduceLeDiff, Int.reduceLT, Int.reduceLE, Int.reduceEq, Int.reduceAdd, Int.reduceToNat, Int.reduceNeg, Int.reduceNegSucc, ↓vz_seq, hy, hjl, Int.natCast_nonneg, List.length_map, entP, tkF_upd]
            rw [wrap_i64 (by omega)]
            refine ⟨j + 1, by omega, E16b nm ts i es (j + 1), HM (fun x => tk' x || decide (x = es[j].1)), Wk.perm [0] (by simp) rfl (by simp only [go_sem, List.range', reduceIte, Nat.reduceLT, Nat.reduceAdd, Nat.reduceSub, Nat.reduceMul, Nat.reduceEqDiff, reduceCtorEq, Nat.reduceLeDiff, Int.reduceLT, Int.reduceLE, Int.reduceEq, Int.reduceAdd, Int.reduceToNat, Int.reduceNeg, Int.reduceNegSucc, ↓vz_seq, okH, AObj.lt, AV.lt, AV.ltL, tkF_lt, tkF_ren]) ?_, _, ?_, hjl', rfl, rfl⟩
            · unfold E16b E16
              repeat (first | exact okE_E0 | refine okE_put (by first | trivial | (simp [AV.lt, AV.ltL]; done)) (by first | (simp only [go_sem, List.range', reduceIte, Nat.reduceLT, Nat.reduceAdd, Nat.reduceSub, Nat.reduceMul, Nat.reduceEqDiff, reduceCtorEq, Nat.reduceLeDiff, Int.reduceLT, Int.reduceLE, Int.reduceEq, Int.reduceAdd, Int.reduceToNat, Int.reduceNeg, Int.reduceNegSucc, ↓vz_seq]; done) | (simp only [go_sem, List.range', reduceIte, Nat.reduceLT, Nat.reduceAdd, Nat.reduceSub, Nat.reduceMul, Nat.reduceEqDiff, reduceCtorEq, Nat.reduceLeDiff, Int.reduceLT, Int.reduceLE, Int.reduceEq, Int.reduceAdd, Int.reduceToNat, Int.reduceNeg, Int.reduceNegSucc, ↓vz_seq]; rfl)) ?_)
            · rw [← htk', List.drop_eq_getElem_cons hjl']
              funext x
              simp only [tkL, List.any_cons, Bool.or_assoc, eq_comm]
          · simp only [go_sem, List.range', reduceIte, Nat.reduceLT, Nat.reduceAdd, Nat.reduceSub, Nat.reduceMul, Nat.reduceEqDiff, reduceCtorEq, Nat.reduceLeDiff, Int.reduceLT, Int.reduceLE, Int.reduceEq, Int.reduceAdd, Int.reduceToNat, Int.reduceNeg, Int.reduceNegSucc, ↓vz_seq]
            rw [wrap_i64 (by omega)]
            rw [List.drop_of_length_le (by omega)] at htk'
            refine ⟨i + 1, by omega, E16 nm ts (i + 1), HM tk', Wk.perm [0] (by simp) rfl (by simp only [go_sem, List.range', reduceIte, Nat.reduceLT, Nat.reduceAdd, Nat.reduceSub, Nat.reduceMul, Nat.reduceEqDiff, reduceCtorEq, Nat.reduceLeDiff, Int.reduceLT, Int.reduceLE, Int.reduceEq, Int.reduceAdd, Int.reduceToNat, Int.reduceNeg, Int.reduceNegSucc, ↓vz_seq, okH, AObj.lt, AV.lt, AV.ltL, tkF_lt, tkF_ren]) ?_, _, ?_, hlt', rfl, rfl⟩
            · unfold E16
              repeat (first | exact okE_E0 | refine okE_put (by first | trivial | (simp [AV.lt, AV.ltL]; done)) (by first | (simp only [go_sem, List.range', reduceIte, Nat.reduceLT, Nat.reduceAdd, Nat.reduceSub, Nat.reduceMul, Nat.reduceEqDiff, reduceCtorEq, Nat.reduceLeDiff, Int.reduceLT, Int.reduceLE, Int.reduceEq, Int.reduceAdd, Int.reduceToNat, Int.reduceNeg, Int.reduceNegSucc, ↓vz_seq]; done) | (simp only [go_sem, List.range', reduceIte, Nat.reduceLT, Nat.reduceAdd, Nat.reduceSub, Nat.reduceMul, Nat.reduceEqDiff, reduceCtorEq, Nat.reduceLeDiff, Int.reduceLT, Int.reduceLE, Int.reduceEq, Int.reduceAdd, Int.reduceToNat, Int.reduceNeg, Int.reduceNegSucc, ↓vz_seq]; rfl)) ?_)
            · rw [← htk, List.drop_eq_getElem_cons hlt']
              funext x
              have := congrFun htk' x
              simp only [tkL, List.any_nil, Bool.or_false] at this
              simp only [tkT, List.any_cons, freeT, hgen, this, Bool.or_assoc]
      · have htk1 : tk = tkT ts (fun _ => false) := by
          rw [← htk, List.drop_of_length_le (by omega)]
          funext x
          simp [tkT]
        have hv1 : ∀ s : ByteArray, tkF tk (.str s) = if tk s then some (.pv (.bool true)) else none := fun s => rfl
        rw [← htk1, freshL] at hres
        cases hv : tk nm with
        | false =>
          rw [if_neg (by simp [hv])] at hres
          simp only [go_sem, List.range', reduceIte, Nat.reduceLT, Nat.reduceAdd, Nat.reduceSub, Nat.reduceMul, Nat.reduceEqDiff, reduceCtorEq, Nat.reduceLeDiff, Int.reduceLT, Int.reduceLE, Int.reduceEq, Int.reduceAdd, Int.reduceToNat, Int.reduceNeg, Int.reduceNegSucc, ↓vz_seq, hv1, hv, Bool.false_eq_true]
          exact hres
        | true =>
          rw [if_pos hv] at hres
          simp only [go_sem, List.range', reduceIte, Nat.reduceLT, Nat.reduceAdd, Nat.reduceSub, Nat.reduceMul, Nat.reduceEqDiff, reduceCtorEq, Nat.reduceLeDiff, Int.reduceLT, Int.reduceLE, Int.reduceEq, Int.reduceAdd, Int.reduceToNat, Int.reduceNeg, Int.reduceNegSucc, ↓vz_seq, hv1, hv]
          refine vz_loop (fun k => 100 - k) (fun k e h => ∃ last, frL tk nm (100 - k) k last = res ∧ k ≤ 100 ∧ e = E16c nm last k ∧ h = HM tk) 0 ?_ ?_
          · refine ⟨E16c nm ⟨#[]⟩ 0, HM tk, Wk.perm [0] (by simp) rfl (by simp only [go_sem, List.range', reduceIte, Nat.reduceLT, Nat.reduceAdd, Nat.reduceSub, Nat.reduceMul, Nat.reduceEqDiff, reduceCtorEq, Nat.reduceLeDiff, Int.reduceLT, Int.reduceLE, Int.reduceEq, Int.reduceAdd, Int.reduceToNat, Int.reduceNeg, Int.reduceNegSucc, ↓vz_seq, okH, AObj.lt, AV.lt, AV.ltL, tkF_lt, tkF_ren]) ?_, _, hres, Nat.zero_le _, rfl, rfl⟩
            unfold E16c
            repeat (first | exact okE_E0 | refine okE_put (by first | trivial | (simp [AV.lt, AV.ltL]; done)) (by first | (simp only [go_sem, List.range', reduceIte, Nat.reduceLT, Nat.reduceAdd, Nat.reduceSub, Nat.reduceMul, Nat.reduceEqDiff, reduceCtorEq, Nat.reduceLeDiff, Int.reduceLT, Int.reduceLE, Int.reduceEq, Int.reduceAdd, Int.reduceToNat, Int.reduceNeg, Int.reduceNegSucc, ↓vz_seq]; done) | (simp only [go_sem, List.range', reduceIte, Nat.reduceLT, Nat.reduceAdd, Nat.reduceSub, Nat.reduceMul, Nat.reduceEqDiff, reduceCtorEq, Nat.reduceLeDiff, Int.reduceLT, Int.reduceLE, Int.reduceEq, Int.reduceAdd, Int.reduceToNat, Int.reduceNeg, Int.reduceNegSucc, ↓vz_seq]; rfl)) ?_)
          · rintro k _ _ ⟨last, hl, hk, rfl, rfl⟩
            simp only [go_sem, List.range', reduceIte, Nat.reduceLT, Nat.reduceAdd, Nat.reduceSub, Nat.reduceMul, Nat.reduceEqDiff, reduceCtorEq, Nat.reduceLeDiff, Int.reduceLT, Int.reduceLE, Int.reduceEq, Int.reduceAdd, Int.reduceToNat, Int.reduceNeg, Int.reduceNegSucc, ↓vz_seq, E16c]
            refine brB_dec (fun hlt2 => ?_) (fun hge2 => ?_)
            · have hlt2' : k < 100 := by omega
              rw [show 100 - k = (99 - k) + 1 by omega, frL] at hl
              simp only [go_sem, List.range', reduceIte, Nat.reduceLT, Nat.reduceAdd, Nat.reduceSub, Nat.reduceMul, Nat.reduceEqDiff, reduceCtorEq, Nat.reduceLeDiff, Int.reduceLT, Int.reduceLE, Int.reduceEq, Int.reduceAdd, Int.reduceToNat, Int.reduceNeg, Int.reduceNegSucc, ↓vz_seq, Int.natCast_nonneg]
              refine vz_draw 8 mixed (by kernel_rfl) ?_
              have hmin : (if 13 < (nm.size : Int) then (13 : Int) else (nm.size : Int)) = ((min nm.size 13 : Nat) : Int) := by split <;> omega
              have hm1 : ((min nm.size 13 : Nat) : Int) ≤ (nm.size : Int) := by omega
              have hsz : (nm.extract 0 (min nm.size 13)).size ≤ 13 := by simp [ByteArray.size_extract]; omega
              have hd := digs_len k hlt2'
              have hb1 := bin_addS (P := Tryd.prog) 9 (nm.extract 0 (min nm.size 13)) ⟨#[95]⟩ (by have : (⟨#[95]⟩ : ByteArray).size = 1 := rfl; omega)
              have hb2 := bin_addS (P := Tryd.prog) 9 (nm.extract 0 (min nm.size 13) ++ ⟨#[95]⟩) ⟨(Lib.decDigits k).toArray⟩ (by have : (⟨#[95]⟩ : ByteArray).size = 1 := rfl; simp only [ByteArray.size_append]; omega)
              simp only [go_sem, List.range', reduceIte, Nat.reduceLT, Nat.reduceAdd, Nat.reduceSub, Nat.reduceMul, Nat.reduceEqDiff, reduceCtorEq, Nat.reduceLeDiff, Int.reduceLT, Int.reduceLE, Int.reduceEq, Int.reduceAdd, Int.reduceToNat, Int.reduceNeg, Int.reduceNegSucc, ↓vz_seq, hmin, hm1, Tryd.underlying9, Int.ofNat_zero, Int.natCast_nonneg, hb1]
              refine PCallZ.of (itoa_pure k hlt2') ?_
              simp only [go_sem, List.range', reduceIte, Nat.reduceLT, Nat.reduceAdd, Nat.reduceSub, Nat.reduceMul, Nat.reduceEqDiff, reduceCtorEq, Nat.reduceLeDiff, Int.reduceLT, Int.reduceLE, Int.reduceEq, Int.reduceAdd, Int.reduceToNat, Int.reduceNeg, Int.reduceNegSucc, ↓vz_seq, hmin, hb2]
              have hnx : nm.extract 0 (min nm.size 13) ++ ⟨#[95]⟩ ++ ⟨(Lib.decDigits k).toArray⟩ = nextN nm k := rfl
              rw [hnx]
              cases hv2 : tk (nextN nm k) with
              | true =>
                rw [if_pos hv2] at hl
                simp only [go_sem, List.range', reduceIte, Nat.reduceLT, Nat.reduceAdd, Nat.reduceSub, Nat.reduceMul, Nat.reduceEqDiff, reduceCtorEq, Nat.reduceLeDiff, Int.reduceLT, Int.reduceLE, Int.reduceEq, Int.reduceAdd, Int.reduceToNat, Int.reduceNeg, Int.reduceNegSucc, ↓vz_seq, hv1, hv2]
                rw [wrap_i64 (by omega)]
                refine ⟨k + 1, by omega, E16c nm (nextN nm k) (k + 1), HM tk, Wk.perm [0] (by simp) rfl (by simp only [go_sem, List.range', reduceIte, Nat.reduceLT, Nat.reduceAdd, Nat.reduceSub, Nat.reduceMul, Nat.reduceEqDiff, reduceCtorEq, Nat.reduceLeDiff, Int.reduceLT, Int.reduceLE, Int.reduceEq, Int.reduceAdd, Int.reduceToNat, Int.reduceNeg, Int.reduceNegSucc, ↓vz_seq, okH, AObj.lt, AV.lt, AV.ltL, tkF_lt, tkF_ren]) ?_, _, by rw [show 100 - (k + 1) = 99 - k by omega]; exact hl, by omega, rfl, rfl⟩
                unfold E16c
                repeat (first | exact okE_E0 | refine okE_put (by first | trivial | (simp [AV.lt, AV.ltL]; done)) (by first | (simp only [go_sem, List.range', reduceIte, Nat.reduceLT, Nat.reduceAdd, Nat.reduceSub, Nat.reduceMul, Nat.reduceEqDiff, reduceCtorEq, Nat.reduceLeDiff, Int.reduceLT, Int.reduceLE, Int.reduceEq, Int.reduceAdd, Int.reduceToNat, Int.reduceNeg, Int.reduceNegSucc, ↓vz_seq]; done) | (simp only [go_sem, List.range', reduceIte, Nat.reduceLT, Nat.reduceAdd, Nat.reduceSub, Nat.reduceMul, Nat.reduceEqDiff, reduceCtorEq, Nat.reduceLeDiff, Int.reduceLT, Int.reduceLE, Int.reduceEq, Int.reduceAdd, Int.reduceToNat, Int.reduceNeg, Int.reduceNegSucc, ↓vz_seq]; rfl)) ?_)
              | false =>
                rw [if_neg (by simp [hv2])] at hl
                simp only [go_sem, List.range', reduceIte, Nat.reduceLT, Nat.reduceAdd, Nat.reduceSub, Nat.reduceMul, Nat.reduceEqDiff, reduceCtorEq, Nat.reduceLeDiff, Int.reduceLT, Int.reduceLE, Int.reduceEq, Int.reduceAdd, Int.reduceToNat, Int.reduceNeg, Int.reduceNegSucc, ↓vz_seq, hv1, hv2, Bool.false_eq_true]
                exact hl
            · simp only [go_sem, List.range', reduceIte, Nat.reduceLT, Nat.reduceAdd, Nat.reduceSub, Nat.reduceMul, Nat.reduceEqDiff, reduceCtorEq, Nat.reduceLeDiff, Int.reduceLT, Int.reduceLE, Int.reduceEq, Int.reduceAdd, Int.reduceToNat, Int.reduceNeg, Int.reduceNegSucc, ↓vz_seq]
              rw [show 100 - k = 0 by omega, frL] at hl
              simp only [go_sem, List.range', reduceIte, Nat.reduceLT, Nat.reduceAdd, Nat.reduceSub, Nat.reduceMul, Nat.reduceEqDiff, reduceCtorEq, Nat.reduceLeDiff, Int.reduceLT, Int.reduceLE, Int.reduceEq, Int.reduceAdd, Int.reduceToNat, Int.reduceNeg, Int.reduceNegSucc, ↓vz_seq, hl]
end Go.Proofs.YtahamnipffckhaaDoor
