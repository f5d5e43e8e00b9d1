import Derived.Test.YtahamnipffckhaaDoorAm23
import Derived.Test.YtahamnipffckhaaDoorTy
set_option linter.unusedVariables false
set_option linter.unusedSimpArgs false
namespace Go.Proofs.YtahamnipffckhaaDoor
open Go Go.RowKit
section
variable {P : Program} {F : Fence} {n N : Nat} {G : Ghost} {ι : Nat → Nat × Nat} {I : Nat → Prop} {h : AHeap} {W : World} {e : AEnv} {a : Act}
theorem seg_in (hF : FOk P F) {c : Code} {J : AEnv → AHeap → Prop} {R : Exit → Act → World → Prop} (hI : Inv G ι I h W) (hE : ERel N h.length W I ι e a) (hd : a.defers = []) (hs : simpC c = true) (hv : VcZ true P N h.length noQ [.code c, .back J] e h)
    (hn : ∀ e' h' a' W' ι' I', J e' h' → Inv (ghostOf ι I h W) ι' I' h' W' → ERel N h'.length W' I' ι' e' a' → Ext I I' ι ι' h.length W W' → a'.defers = [] → R .normal a' W') : c.wpIn F n P R a W := by
  have hw := Vc.soundR hF (n := n) hv (by simp [simpI, hs])
  simp only [AfterR] at hw
  refine wpIn_mono (hw ⟨ghostOf ι I h W, ι, I, W, []⟩ a W ι I ⟨hI.fresh, hE, Ext.refl _ _ _ _, Nat.le_refl _, hd⟩) ?_
  intro ex a' W' hq
  cases ex with
  | exit id => obtain ⟨_, _, _, _, _, hf⟩ := hq; simp only [AfterR] at hf; exact hf.elim
  | ret => obtain ⟨_, _, _, _, _, hf⟩ := hq; rw [AfterR_ret] at hf; exact hf.elim
  | panic ch => obtain ⟨_, _, _, _, _, _, _, _, _, hf⟩ := hq; rw [AfterR_pan] at hf; exact hf.elim
  | goto l => exact hq.elim
  | outgrown => exact hq.elim
  | normal =>
    obtain ⟨ι', I', e', h', A, hJ⟩ := hq
    simp only [AfterR] at hJ
    exact hn e' h' a' W' ι' I' hJ A.inv A.env A.ext A.dfr
theorem Oper.wpIn_mono {o : Oper} {K K' : Act → World → Prop} {Q Q' : Exit → Act → World → Prop} (hK : ∀ a w, K a w → K' a w) (hQ : ∀ x a w, x ≠ .normal → Q x a w → Q' x a w) {w : World} (h : o.wpIn F n P a w K Q) : o.wpIn F n P a w K' Q' := by
  refine ⟨h.1, ?_⟩
  have h2 := h.2
  generalize (o.semAt F.round a.eval).run P w = r at h2 ⊢
  cases r with
  | ok nn w' =>
    cases nn <;> simp only [Oper.uponIn] at h2 ⊢ <;>
      first
        | exact hK _ _ h2
        | exact ⟨h2.1, h2.2.mono fun v w'' he => hK _ _ he⟩
        | exact ⟨h2.1, h2.2.mono fun en w'' he => by
            cases en with
            | returned v => exact hK _ _ he
            | panicked ch => exact hQ _ _ _ (by simp) he
            | outgrown => obtain ⟨a0, w0, hq⟩ := he; exact ⟨a0, w0, hQ _ _ _ (by simp) hq⟩⟩
  | halt x w' => cases x <;> simp only [Oper.uponIn] at h2 ⊢ <;> first | exact hQ _ _ _ (by simp) h2 | exact h2
theorem wpListIn_mono {all : Array Oper} {Q Q' : Exit → Act → World → Prop} (hQ : ∀ x a w, Q x a w → Q' x a w) : ∀ (l : List Oper) (a : Act) (w : World), wpListIn F n P all Q l a w → wpListIn F n P all Q' l a w
  | [], a, w, h => hQ _ _ _ h
  | o :: l, a, w, h => by
    unfold wpListIn at h ⊢
    split at h
    · rename_i hw
      rw [if_pos hw]
      exact Oper.wpIn_mono (fun a w => wpListIn_mono hQ l a w) (fun x a w _ => hQ x a w) h
    · rename_i hw
      rw [if_neg hw]
      exact ⟨h.1, wpListIn_mono hQ l _ _ h.2⟩
theorem wpListIn_app {all : Array Oper} {Q : Exit → Act → World → Prop} {l2 : List Oper} : ∀ (l1 : List Oper) (a : Act) (w : World), wpListIn F n P all (Exit.then (fun a w => wpListIn F n P all Q l2 a w) Q) l1 a w → wpListIn F n P all Q (l1 ++ l2) a w
  | [], a, w, h => h
  | o :: l, a, w, h => by
    rw [List.cons_append]
    unfold wpListIn at h ⊢
    split at h
    · rename_i hw
      rw [if_pos hw]
      exact Oper.wpIn_mono (fun a w => wpListIn_app l a w) (fun x a w hx hq => by cases x <;> first | exact hq | exact absurd rfl hx) h
    · rename_i hw
      rw [if_neg hw]
      exact ⟨h.1, wpListIn_app l _ _ h.2⟩
theorem segL_in (hF : FOk P F) {all : Array Oper} {l : List Oper} {J : AEnv → AHeap → Prop} {R : Exit → Act → World → Prop} (hI : Inv G ι I h W) (hE : ERel N h.length W I ι e a) (hd : a.defers = []) (hs : (l.all fun o => kind o.op != 2) = true) (hv : VcZ true P N h.length noQ [.ops all l, .back J] e h)
    (hn : ∀ e' h' a' W' ι' I', J e' h' → Inv (ghostOf ι I h W) ι' I' h' W' → ERel N h'.length W' I' ι' e' a' → Ext I I' ι ι' h.length W W' → a'.defers = [] → R .normal a' W') : wpListIn F n P all R l a W := by
  have hw := Vc.soundR hF (n := n) hv (by simp [simpI, hs])
  simp only [AfterR] at hw
  refine wpListIn_mono ?_ l a W (hw ⟨ghostOf ι I h W, ι, I, W, []⟩ a W ι I ⟨hI.fresh, hE, Ext.refl _ _ _ _, Nat.le_refl _, hd⟩)
  intro ex a' W' hq
  cases ex with
  | exit id => obtain ⟨_, _, _, _, _, hf⟩ := hq; simp only [AfterR] at hf; exact hf.elim
  | ret => obtain ⟨_, _, _, _, _, hf⟩ := hq; rw [AfterR_ret] at hf; exact hf.elim
  | panic ch => obtain ⟨_, _, _, _, _, _, _, _, _, hf⟩ := hq; rw [AfterR_pan] at hf; exact hf.elim
  | goto l => exact hq.elim
  | outgrown => exact hq.elim
  | normal =>
    obtain ⟨ι', I', e', h', A, hJ⟩ := hq
    simp only [AfterR] at hJ
    exact hn e' h' a' W' ι' I' hJ A.inv A.env A.ext A.dfr
end
def E70 (r bx : Nat) (j : Int) : AEnv := ((E0.put 0 (.pv (.yl r))).put 1 (.ptr bx 0)).put 3 (.pv (.int .i64 j))
theorem wpListIn_cut {P : Program} {F : Fence} {n : Nat} {all : Array Oper} {Q : Exit → Act → World → Prop} (k : Nat) {l : List Oper} {a : Act} {w : World} (h : wpListIn F n P all (Exit.then (fun a w => wpListIn F n P all Q (l.drop k) a w) Q) (l.take k) a w) : wpListIn F n P all Q l a w := by
  have := wpListIn_app _ _ _ h
  rwa [List.take_append_drop] at this
def E70c (r bx i : Nat) (c : List PV) : AEnv := (((E70 r bx (i : Int)).put 11 (.pv (.yl r))).put 12 (.pv (.int .i64 (i : Int)))).put 16 (.pv (.agg c))
theorem env16 (r bx i : Nat) (es : List (List PV)) (c : List PV) : ∀ t, (E70c r bx i c t = if t = 16 then AV.pv (PV.agg c) else if t = 15 then AV.iptr c else if t = 14 then AV.pv (PV.int IntKind.i64 (i : Int)) else if t = 13 then AV.pv (PV.sl es) else if t = 12 then AV.pv (PV.int IntKind.i64 (i : Int)) else
    if t = 11 then AV.pv (PV.yl r) else if t = 3 then AV.pv (PV.int IntKind.i64 (i : Int)) else if t = 1 then AV.ptr bx 0 else if t = 0 then AV.pv (PV.yl r) else AV.undef) ∨ E70c r bx i c t = .undef := by
  intro t
  simp only [E70c, E70, AEnv.put, E0]
  repeat' split
  all_goals simp_all
theorem env18 (r bx i : Nat) : ∀ t, ((if t = 18 then AV.pv (PV.bool false) else if t = 3 then AV.pv (PV.int IntKind.i64 (i : Int)) else if t = 1 then AV.ptr bx 0 else if t = 0 then AV.pv (PV.yl r) else AV.undef) = if t = 18 then AV.pv (PV.bool false) else if t = 17 then AV.pv (PV.bool true) else if t = 3 then AV.pv (PV.int IntKind.i64 (i : Int)) else if t = 1 then AV.ptr bx 0 else if t = 0 then AV.pv (PV.yl r) else AV.undef) ∨ (if t = 18 then AV.pv (PV.bool false) else if t = 3 then AV.pv (PV.int IntKind.i64 (i : Int)) else if t = 1 then AV.ptr bx 0 else if t = 0 then AV.pv (PV.yl r) else AV.undef) = .undef := by
  intro t
  repeat' split
  all_goals simp_all
theorem env2 (r bx i : Nat) : ∀ t, ((if t = 3 then AV.pv (PV.int IntKind.i64 ((i : Int) - 1)) else if t = 1 then AV.ptr bx 0 else if t = 0 then AV.pv (PV.yl r) else AV.undef) = if t = 3 then AV.pv (PV.int IntKind.i64 ((i : Int) - 1)) else if t = 10 then AV.pv (PV.int IntKind.i64 ((i : Int) - 1)) else if t = 9 then AV.pv (PV.int IntKind.i64 (i : Int)) else
    if t = 18 then AV.pv (PV.bool false) else if t = 3 then AV.pv (PV.int IntKind.i64 (i : Int)) else if t = 1 then AV.ptr bx 0 else if t = 0 then AV.pv (PV.yl r) else AV.undef) ∨ (if t = 3 then AV.pv (PV.int IntKind.i64 ((i : Int) - 1)) else if t = 1 then AV.ptr bx 0 else if t = 0 then AV.pv (PV.yl r) else AV.undef) = .undef := by
  intro t
  repeat' split
  all_goals simp_all
theorem seg_wk {n : Nat} {c : Code} {h : AHeap} {e e2 : AEnv} {N : Nat} {P : Program} (hv : VcZ true P N h.length noQ [.code c, .back (fun e' h' => h' = h ∧ ∀ t, e2 t = e' t ∨ e2 t = .undef)] e h) {F : Fence} (hF : FOk P F) {G : Ghost} {ι : Nat → Nat × Nat} {I : Nat → Prop} {W : World} {a : Act} {R : Exit → Act → World → Prop}
    (hI : Inv G ι I h W) (hE : ERel N h.length W I ι e a) (hd : a.defers = []) (hs : simpC c = true)
    (hn : ∀ a' W' ι' I', Inv (ghostOf ι I h W) ι' I' h W' → ERel N h.length W' I' ι' e2 a' → Ext I I' ι ι' h.length W W' → a'.defers = [] → R .normal a' W') : c.wpIn F n P R a W :=
  seg_in hF hI hE hd hs hv fun e' h' a' W' ι' I' hJ h1 h2 h3 h4 => by
    obtain ⟨rfl, hJ⟩ := hJ
    exact hn a' W' ι' I' h1 (h2.forget hJ) h3 h4
theorem segL_wk {n : Nat} {all : Array Oper} {l : List Oper} {h : AHeap} {e e2 : AEnv} {N : Nat} {P : Program} (hv : VcZ true P N h.length noQ [.ops all l, .back (fun e' h' => h' = h ∧ ∀ t, e2 t = e' t ∨ e2 t = .undef)] e h) {F : Fence} (hF : FOk P F) {G : Ghost} {ι : Nat → Nat × Nat} {I : Nat → Prop} {W : World} {a : Act} {R : Exit → Act → World → Prop}
    (hI : Inv G ι I h W) (hE : ERel N h.length W I ι e a) (hd : a.defers = []) (hs : (l.all fun o => kind o.op != 2) = true)
    (hn : ∀ a' W' ι' I', Inv (ghostOf ι I h W) ι' I' h W' → ERel N h.length W' I' ι' e2 a' → Ext I I' ι ι' h.length W W' → a'.defers = [] → R .normal a' W') : wpListIn F n P all R l a W :=
  segL_in hF hI hE hd hs hv fun e' h' a' W' ι' I' hJ h1 h2 h3 h4 => by
    obtain ⟨rfl, hJ⟩ := hJ
    exact hn a' W' ι' I' h1 (h2.forget hJ) h3 h4
/-- Where the iterator is when k elements have come. -/
def ItSt (m : Nat) (St : Nat → (Nat → Nat × Nat) → (Nat → Prop) → AHeap → World → Prop) (W0 : World) (ι0 : Nat → Nat × Nat) (I0 : Nat → Prop) (k : Nat) (e : AEnv) (a : Act) (W : World) : Prop :=
  ∃ ι I h, St k ι I h W ∧ Ext I0 I ι0 ι m W0 W ∧ ERel 19 m W I ι e a ∧ a.defers = []
theorem back_iter : IterBack Tryd.prog 70 5 := by
  intro n r m bx es St h5 hSt hstep hround ι I h W h0
  refine callsIn_of_wp Tryd.func70 rfl trivial ?_ rfl
  obtain ⟨⟨G, hI⟩, hlen, hbx⟩ := hSt _ _ _ _ _ h0
  have hbm : bx < m := by rw [← hlen]; exact (List.getElem?_eq_some_iff.1 hbx).1
  have hes : es.length ≤ 140737488355328 := by
    obtain ⟨_, vs, t, _, _, h3⟩ := hI.obj bx _ hbx
    simp only [arelL, arel, rel] at h3
    obtain ⟨_, _, _, ⟨_, _, _, _, h4, _⟩, _⟩ := h3
    exact h4
  refine wpIn_seq (seg_wk (N := 19) (e := (E0.put 0 (.pv (.yl r))).put 1 (.ptr bx 0)) (e2 := E70 r bx ((es.length : Int) - 1)) ?_ fok_wide hI ?_ rfl rfl ?_)
  · simp only [go_sem, List.range', reduceIte, Nat.reduceLT, Nat.reduceAdd, Nat.reduceSub, Nat.reduceMul, Nat.reduceEqDiff, reduceCtorEq, Nat.reduceLeDiff, Int.reduceLT, Int.reduceLE, Int.reduceEq, Int.reduceAdd, Int.reduceToNat, Int.reduceNeg, Int.reduceNegSucc, ↓vz_seq, hbx]
    rw [wrap_i64 (by omega)]
    intro t
    simp only [E70, AEnv.put, E0]
    repeat' split
    all_goals simp_all
  · refine ⟨by simp [Tryd.ntmps70], fun t ht => ?_, fun t => ?_, fun t => ?_⟩
    · simp only [AEnv.put, E0]
      rw [if_neg (by omega), if_neg (by omega)]
    · simp only [AEnv.put, E0]
      split
      · simp only [AV.lt]; omega
      · split <;> trivial
    · simp only [AEnv.put, E0]
      split
      · rename_i e; subst e; simp [arel]
      · split
        · rename_i e; subst e; simp [arel, rel]
        · simp [arel]
  · intro a1 W1 ι1 I1 q1 q2 q3 q4
    refine wpIn_block (wpIn_loop (fun a W' => ∃ k, k ≤ es.length ∧ ItSt m St W ι I k (E70 r bx ((es.length : Int) - 1 - k)) a W') (fun a _ => match a.tmps.getD 3 Go.undef with | .int _ j => (j + 1).toNat | _ => 0) ?_ ?_)
    · exact ⟨0, Nat.zero_le _, ι1, I1, h, hstep _ _ _ _ _ _ _ _ h0 q1 (hlen ▸ q3), hlen ▸ q3, by simpa [hlen] using q2, q4⟩
    · rintro a W' ⟨k, hk, ι2, I2, h2, s1, s2, s3, s4⟩
      obtain ⟨⟨G2, hI2⟩, hlen2, hbx2⟩ := hSt _ _ _ _ _ s1
      have hmu : (match a.tmps.getD 3 Go.undef with | .int _ j => (j + 1).toNat | _ => 0) = es.length - k := by
        have := s3.rel 3
        simp only [E70, AEnv.put, if_true, arel, rel] at this
        rw [this]
        simp only
        omega
      refine wpIn_seq (wpIn_seq (seg_wk (N := 19) (e := E70 r bx ((es.length : Int) - 1 - k)) (e2 := (E70 r bx ((es.length : Int) - 1 - k)).put 8 (.pv (.bool (decide (0 ≤ (es.length : Int) - 1 - k))))) ?_ fok_wide hI2 (by rw [hlen2]; exact s3) s4 rfl ?_))
      · simp only [go_sem, List.range', reduceIte, Nat.reduceLT, Nat.reduceAdd, Nat.reduceSub, Nat.reduceMul, Nat.reduceEqDiff, reduceCtorEq, Nat.reduceLeDiff, Int.reduceLT, Int.reduceLE, Int.reduceEq, Int.reduceAdd, Int.reduceToNat, Int.reduceNeg, Int.reduceNegSucc, ↓vz_seq, E70, hbx2]
        intro t
        repeat' split
        all_goals simp_all
      intro a3 W3 ι3 I3 u1 u2 u3 u4
      have hst3 := hstep _ _ _ _ _ _ _ _ s1 u1 (hlen2 ▸ u3)
      have hx3 := s2.trans (hlen2 ▸ u3 : Ext I2 I3 ι2 ι3 m W' W3) (Nat.le_refl _)
      rw [hlen2] at u2 u3
      have hv8 := (opd_rel u2 (.tmp 8)).1
      have hop8 : opd ((E70 r bx ((es.length : Int) - 1 - k)).put 8 (.pv (.bool (decide (0 ≤ (es.length : Int) - 1 - k))))) (.tmp 8) = .pv (.bool (decide (0 ≤ (es.length : Int) - 1 - k))) := by simp [opd, AEnv.put]
      rw [hop8] at hv8
      simp only [arel, rel] at hv8
      refine wpIn_cond_split hv8 (fun hb => ?_) (fun hb => ?_)
      · -- one more element
        have hkl : k < es.length := by have := of_decide_eq_true hb; omega
        refine wpIn_skip ?_
        obtain ⟨i, hi⟩ : ∃ i, i = es.length - 1 - k := ⟨_, rfl⟩
        have hj : (es.length : Int) - 1 - k = (i : Int) := by omega
        have hil : i < es.length := by omega
        have hc : es[i]? = some (es.getD i []) := by rw [List.getD_eq_getElem?_getD, List.getElem?_eq_getElem hil]; rfl
        have hcl := h5 _ (List.mem_of_getElem? hc)
        obtain ⟨c, hcd⟩ : ∃ c, c = es.getD i [] := ⟨_, rfl⟩
        rw [← hcd] at hc hcl
        obtain ⟨c0, c1, c2, c3, c4, rfl⟩ : ∃ c0 c1 c2 c3 c4, c = [c0, c1, c2, c3, c4] := by
          match c, hcl with
          | [c0, c1, c2, c3, c4], _ => exact ⟨_, _, _, _, _, rfl⟩
        rw [hj] at u2
        have u5 : ERel 19 h2.length W3 I3 ι3 (E70 r bx (i : Int)) a3 := by
          rw [hlen2]
          refine u2.forget fun t => ?_
          simp only [E70, AEnv.put, E0]
          repeat' split
          all_goals simp_all
        obtain ⟨⟨G3, hI3⟩, _, _⟩ := hSt _ _ _ _ _ hst3
        refine wpIn_seq (wpIn_block (wpIn_seq (wpIn_region_list (wpListIn_cut 6 ?_))))
        refine segL_wk (N := 19) (e := E70 r bx (i : Int)) (e2 := E70c r bx i [c0, c1, c2, c3, c4]) ?_ fok_wide hI3 u5 u4 rfl ?_
        · have hilI : (i : Int) < (es.length : Int) := by omega
          simp only [go_sem, List.range', reduceIte, Nat.reduceLT, Nat.reduceAdd, Nat.reduceSub, Nat.reduceMul, Nat.reduceEqDiff, reduceCtorEq, Nat.reduceLeDiff, Int.reduceLT, Int.reduceLE, Int.reduceEq, Int.reduceAdd, Int.reduceToNat, Int.reduceNeg, Int.reduceNegSucc, ↓vz_seq, E70, hbx2, List.take_succ_cons, List.take_zero, hc, hilI, Int.natCast_nonneg, Int.toNat_natCast]
          exact env16 r bx i es _
        intro a4 W4 ι4 I4 v1 v2 v3 v4
        have hst4 := hstep _ _ _ _ _ _ _ _ hst3 v1 (hlen2 ▸ v3)
        have hx4 := hx3.trans (hlen2 ▸ v3 : Ext I3 I4 ι3 ι4 m W3 W4) (Nat.le_refl _)
        have f11 := (opd_rel v2 (.tmp 11)).1
        have f12 := (opd_rel v2 (.tmp 12)).1
        have f16 := (opd_rel v2 (.tmp 16)).1
        simp only [opd, E70c, AEnv.put, if_true, Nat.reduceEqDiff, if_false, arel] at f11 f12 f16
        simp only [rel] at f11 f12
        obtain ⟨fn, tmps, assign, body, hy, hR⟩ := hround k ι4 I4 h2 W4 _ hst4 hkl (by rw [← hi, ← hcd]; exact f16)
        rw [← hi] at hy
        show wpListIn _ _ _ _ _ _ a4 W4
        simp only [List.drop_succ_cons, List.drop_zero]
        refine wpListIn_plain rfl fun K hK => ⟨fun f _ => trivial, ?_⟩
        rw [Fence.wide_round, Oper.semAt_none]
        have hrun : ∀ (dst : Option Tmp) (ty : TypeId) (pos : String) (after : Array Edge) (at' : Array TypeId), (execOp a4.eval ⟨dst, .call { callee := .value (.tmp 11), args := #[.tmp 12, .tmp 16], argTypes := at' }, ty, pos, after, none⟩).run Tryd.prog W4 = .ok (.round r fn tmps assign body) W4 := by
          intro dst ty pos after at'
          rw [← hy]
          simp [execOp, resolve, Sem.run_bind, f11, f12, Deferred.ofValue, invoke]
        rw [hrun, Oper.uponIn_round]
        refine ⟨fun h => by (cases h), hR.mono ?_⟩
        rintro en W5 ⟨rfl, ι5, I5, h6, hst5, hx5⟩
        obtain ⟨⟨G5, hI5⟩, hlen5, hbx5⟩ := hSt _ _ _ _ _ hst5
        have hx6 := hx4.trans hx5 (Nat.le_refl _)
        refine hK _ _ ?_
        have w2 : ERel 19 h6.length W5 I5 ι5 ((E70 r bx (i : Int)).put 17 (.pv (.bool true))) (a4.put (some 17) (.bool true)) :=
          ((v2.forget (e' := E70 r bx (i : Int)) (fun t => by simp only [E70c, E70, AEnv.put, E0]; repeat' split; all_goals simp_all)).ext (hlen2 ▸ hx5) (m := h6.length) (by omega)).put (by decide) (by simp only [arel, rel]) trivial
        refine segL_wk (N := 19) (e2 := (E70 r bx (i : Int)).put 18 (.pv (.bool false))) ?_ fok_wide hI5 w2 (by simpa [Act.put] using v4) rfl ?_
        · simp only [go_sem, List.range', reduceIte, Nat.reduceLT, Nat.reduceAdd, Nat.reduceSub, Nat.reduceMul, Nat.reduceEqDiff, reduceCtorEq, Nat.reduceLeDiff, Int.reduceLT, Int.reduceLE, Int.reduceEq, Int.reduceAdd, Int.reduceToNat, Int.reduceNeg, Int.reduceNegSucc, ↓vz_seq, E70]
          exact env18 r bx i
        intro a6 W6 ι6 I6 y1 y2 y3 y4
        have hst6 := hstep _ _ _ _ _ _ _ _ hst5 y1 (hlen5 ▸ y3)
        have hx7 := hx6.trans (hlen5 ▸ y3 : Ext I5 I6 ι5 ι6 m W5 W6) (Nat.le_refl _)
        obtain ⟨⟨G6, hI6⟩, _, _⟩ := hSt _ _ _ _ _ hst6
        have f18 := (opd_rel y2 (.tmp 18)).1
        simp only [opd, AEnv.put, if_true, arel, rel] at f18
        show Code.wpIn _ _ _ _ _ a6 W6
        refine wpIn_cond_split f18 (fun hb => by cases hb) (fun _ => wpIn_skip ?_)
        show Code.wpIn _ _ _ _ _ a6 W6
        refine seg_wk (N := 19) (e2 := E70 r bx ((i : Int) - 1)) ?_ fok_wide hI6 y2 y4 rfl ?_
        · simp only [go_sem, List.range', reduceIte, Nat.reduceLT, Nat.reduceAdd, Nat.reduceSub, Nat.reduceMul, Nat.reduceEqDiff, reduceCtorEq, Nat.reduceLeDiff, Int.reduceLT, Int.reduceLE, Int.reduceEq, Int.reduceAdd, Int.reduceToNat, Int.reduceNeg, Int.reduceNegSucc, ↓vz_seq, E70]
          rw [wrap_i64 (by omega)]
          exact env2 r bx i
        intro a7 W7 ι7 I7 z1 z2 z3 z4
        have hj2 : (es.length : Int) - 1 - ((k + 1 : Nat) : Int) = (i : Int) - 1 := by omega
        refine ⟨⟨k + 1, hkl, ι7, I7, h6, hstep _ _ _ _ _ _ _ _ hst6 z1 (hlen5 ▸ z3), hx7.trans (hlen5 ▸ z3 : Ext I6 I7 ι6 ι7 m W6 W7) (Nat.le_refl _), by rw [hj2, ← hlen5]; exact z2, z4⟩, ?_⟩
        have hmu2 : (match a7.tmps.getD 3 Go.undef with | .int _ j => (j + 1).toNat | _ => 0) = es.length - (k + 1) := by
          have := z2.rel 3
          simp only [E70, AEnv.put, if_true, arel, rel] at this
          rw [this]
          simp only
          omega
        show (match a7.tmps.getD 3 Go.undef with | .int _ j => (j + 1).toNat | _ => 0) < (match a.tmps.getD 3 Go.undef with | .int _ j => (j + 1).toNat | _ => 0)
        rw [hmu, hmu2]
        omega
      · have hkl : k = es.length := by have := of_decide_eq_false hb; omega
        subst hkl
        refine wpIn_exit ?_
        simp only [Exit.then, Exit.inBlock, if_true]
        exact ⟨u4, _, results_none rfl _ _ _, ⟨_, rfl⟩, ι3, I3, h2, hst3, hx3⟩
end Go.Proofs.YtahamnipffckhaaDoor
