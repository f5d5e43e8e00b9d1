import Derived.Test.YtahamnipffckhaaDoorAm22
import Derived.RangeFuncWrites
import Derived.RangeFuncCalls
set_option linter.unusedVariables false
set_option linter.unusedSimpArgs false
namespace Go.Proofs.YtahamnipffckhaaDoor
open Go Go.RowKit

/-! ### 40. Plain code in a round of a range over a function -/
def simpC : Code → Bool
  | .skip | .exit _ | .ret => true
  | .seq x y => simpC x && simpC y
  | .cond _ x y => simpC x && simpC y
  | .block _ c => simpC c
  | .region _ ops d => !d && ops.toList.all fun o => kind o.op != 2
  | _ => false
def simpI : It → Bool
  | .code c => simpC c
  | .ops _ l => l.all fun o => kind o.op != 2
  | _ => true
/-- A fence that lets all in. -/
structure FOk (P : Program) (F : Fence) : Prop where
  fn : ∀ f, F.fn f
  depth : F.depth.isSome = true → False
  calls : ∀ (n : Nat) (f : FuncId) (args : Array Value) (w : World) (R : Ending → World → Prop), Calls P f args w R → CallsIn F n P f args w R
  sem : ∀ (o : Oper) (a : Act), kind o.op ≠ 2 → o.semAt F.round a.eval = execOp a.eval o
theorem fok_wide {P : Program} : FOk P Fence.wide where
  fn := fun _ => trivial
  depth := fun h => by cases h
  calls := fun n f args w R h => callsIn_wide.2 h
  sem := fun o a _ => by rw [Fence.wide_round, Oper.semAt_none]
theorem fok_round {P : Program} (r : Nat) : FOk P (Fence.wide.inRound r) where
  fn := fun _ => trivial
  depth := fun h => by cases h
  calls := fun n f args w R h => CallsIn.inRound r (callsIn_wide.2 h)
  sem := fun o a hk => by
    simp only [Fence.inRound_round]
    refine Oper.semAt_some _ _ _ fun c hc => ?_
    rw [hc] at hk
    exact hk rfl
def SemCR (P : Program) (F : Fence) (n N pin : Nat) (c : Code) (Q : AQ) (e : AEnv) (h : AHeap) : Prop :=
  ∀ cx a w ι I, At N pin cx e h a w ι I → c.wpIn F n P (QR N pin cx Q) a w
def SemLR (P : Program) (F : Fence) (n N pin : Nat) (all : Array Oper) (l : List Oper) (Q : AQ) (e : AEnv) (h : AHeap) : Prop :=
  ∀ cx a w ι I, At N pin cx e h a w ι I → wpListIn F n P all (QR N pin cx Q) l a w
def AfterR (P : Program) (F : Fence) (n N pin : Nat) (Q : AQ) : List It → AQ
  | [], x, e, h => Q x e h
  | .code c :: k, .norm, e, h => SemCR P F n N pin c (AfterR P F n N pin Q k) e h
  | .ops all l :: k, .norm, e, h => SemLR P F n N pin all l (AfterR P F n N pin Q k) e h
  | .blk _ :: k, .norm, e, h => AfterR P F n N pin Q k .norm e h
  | .back R :: _, .norm, e, h => R e h
  | .blk id :: k, .exit id', e, h => if id' = id then AfterR P F n N pin Q k .norm e h else AfterR P F n N pin Q k (.exit id') e h
  | .code _ :: k, x, e, h => AfterR P F n N pin Q k x e h
  | .ops _ _ :: k, x, e, h => AfterR P F n N pin Q k x e h
  | .back _ :: k, x, e, h => AfterR P F n N pin Q k x e h
  | .blk _ :: k, x, e, h => AfterR P F n N pin Q k x e h
section
variable {P : Program} {F : Fence} {n N pin : Nat} {Q : AQ}
theorem AfterR_ret : ∀ (k : List It) (e : AEnv) (h : AHeap), AfterR P F n N pin Q k .ret e h = Q .ret e h
  | [], e, h => by simp [AfterR]
  | .code c :: k, e, h => by simp only [AfterR]; exact AfterR_ret k e h
  | .ops _ _ :: k, e, h => by simp only [AfterR]; exact AfterR_ret k e h
  | .back _ :: k, e, h => by simp only [AfterR]; exact AfterR_ret k e h
  | .blk _ :: k, e, h => by simp only [AfterR]; exact AfterR_ret k e h
theorem AfterR_pan (p : PV) : ∀ (k : List It) (e : AEnv) (h : AHeap), AfterR P F n N pin Q k (.pan p) e h = Q (.pan p) e h
  | [], e, h => by simp [AfterR]
  | .code c :: k, e, h => by simp only [AfterR]; exact AfterR_pan p k e h
  | .ops _ _ :: k, e, h => by simp only [AfterR]; exact AfterR_pan p k e h
  | .back _ :: k, e, h => by simp only [AfterR]; exact AfterR_pan p k e h
  | .blk _ :: k, e, h => by simp only [AfterR]; exact AfterR_pan p k e h
theorem AfterR_exit {id : Nat} : ∀ {k k' : List It} {e : AEnv} {h : AHeap}, popTo id k = some k' → AfterR P F n N pin Q k' .norm e h → AfterR P F n N pin Q k (.exit id) e h
  | [], k', e, h, hp, hk => by cases hp
  | .code c :: k, k', e, h, hp, hk => by simp only [AfterR, popTo] at hp ⊢; exact AfterR_exit hp hk
  | .ops _ _ :: k, k', e, h, hp, hk => by simp only [AfterR, popTo] at hp ⊢; exact AfterR_exit hp hk
  | .back _ :: k, k', e, h, hp, hk => by simp only [AfterR, popTo] at hp ⊢; exact AfterR_exit hp hk
  | .blk id' :: k, k', e, h, hp, hk => by
    simp only [AfterR, popTo] at hp ⊢
    by_cases e1 : id = id'
    · rw [if_pos e1] at hp ⊢; cases hp; exact hk
    · rw [if_neg e1] at hp ⊢; exact AfterR_exit hp hk
theorem popTo_simp {id : Nat} : ∀ {k k' : List It}, popTo id k = some k' → k.all simpI = true → k'.all simpI = true
  | [], k', hp, hs => by cases hp
  | .code c :: k, k', hp, hs => by simp only [popTo, List.all_cons, Bool.and_eq_true] at hp hs; exact popTo_simp hp hs.2
  | .ops _ _ :: k, k', hp, hs => by simp only [popTo, List.all_cons, Bool.and_eq_true] at hp hs; exact popTo_simp hp hs.2
  | .back _ :: k, k', hp, hs => by simp only [popTo, List.all_cons, Bool.and_eq_true] at hp hs; exact popTo_simp hp hs.2
  | .blk id' :: k, k', hp, hs => by
    simp only [popTo, List.all_cons, Bool.and_eq_true] at hp hs
    split at hp
    · cases hp; exact hs.2
    · exact popTo_simp hp hs.2
theorem guard_freeR (hF : FOk P F) (o : Oper) (a : Act) (w : World) (K : Act → World → Prop) (Q : Exit → Act → World → Prop) (hk : kind o.op ≠ 2) :
    ({ o with guard := none } : Oper).wpIn F n P a w K Q → o.wpIn F n P a w K Q := by
  intro h
  have hk' : kind ({ o with guard := none } : Oper).op ≠ 2 := hk
  refine ⟨fun f _ => hF.fn f, ?_⟩
  have h2 := h.2
  rw [hF.sem _ _ hk'] at h2
  rw [hF.sem _ _ hk]
  obtain ⟨dst, op, type, pos, after, guard⟩ := o
  have : execOp a.eval { dst, op, type, pos, after, guard := none } = execOp a.eval { dst, op, type, pos, after, guard } := by cases op <;> rfl
  rw [← this]
  generalize (execOp a.eval { dst, op, type, pos, after, guard := none }).run P w = rr at h2 ⊢
  cases rr with
  | ok n w' => cases n <;> exact h2
  | halt x w' => cases x <;> exact h2
theorem Vc.soundR (hF : FOk P F) {k : List It} {e : AEnv} {h : AHeap} (hv : Vc P N pin Q k e h) : k.all simpI = true → AfterR P F n N pin Q k .norm e h := by
  induction hv with
  | nil hq => intro _; simpa [AfterR] using hq
  | skip _ ih =>
    intro hs
    simp only [List.all_cons, Bool.and_eq_true] at hs
    simp only [AfterR]
    exact fun cx a w ι I hA => wpIn_skip ⟨ι, I, _, _, hA, ih hs.2⟩
  | seq _ ih =>
    intro hs
    simp only [List.all_cons, Bool.and_eq_true, simpI, simpC] at hs ih
    simp only [AfterR]
    intro cx a w ι I hA
    have hk := ih ⟨hs.1.1, hs.1.2, hs.2⟩
    simp only [AfterR] at hk
    refine wpIn_seq (wpIn_mono (hk cx a w ι I hA) ?_)
    intro ex a' w' hq
    cases ex with
    | normal =>
      obtain ⟨ι', I', e', h', h1, h2⟩ := hq
      simp only [AfterR] at h2
      exact h2 cx a' w' ι' I' h1
    | exit id => first | exact hq | simpa only [Exit.then, Exit.inBlock, QR, AfterR] using hq
    | ret => first | exact hq | simpa only [Exit.then, Exit.inBlock, QR, AfterR] using hq
    | panic ch => first | exact hq | simpa only [Exit.then, Exit.inBlock, QR, AfterR] using hq
    | goto l => exact hq
    | outgrown => exact hq
  | @cond c x y k e h b hc _ _ i1 i2 =>
    intro hs
    simp only [List.all_cons, Bool.and_eq_true, simpI, simpC] at hs i1 i2
    simp only [AfterR] at i1 i2 ⊢
    intro cx a w ι I hA
    have hv := (opd_rel hA.env c).1
    rw [hc] at hv
    simp only [arel, rel] at hv
    exact wpIn_cond_split hv (fun hb => i1 hb ⟨hs.1.1, hs.2⟩ cx a w ι I hA) (fun hb => i2 hb ⟨hs.1.2, hs.2⟩ cx a w ι I hA)
  | @block id c k e h _ ih =>
    intro hs
    simp only [List.all_cons, Bool.and_eq_true, simpI, simpC, true_and] at hs ih
    have hk := ih hs
    simp only [AfterR] at hk ⊢
    intro cx a w ι I hA
    refine wpIn_block (wpIn_mono (hk cx a w ι I hA) ?_)
    intro ex a' w' hq
    cases ex with
    | normal => first | exact hq | simpa only [Exit.then, Exit.inBlock, QR, AfterR] using hq
    | exit id' =>
      simp only [Exit.inBlock]
      obtain ⟨ι', I', e', h', h1, h2⟩ := hq
      simp only [AfterR] at h2
      by_cases e1 : id' = id
      · rw [if_pos e1] at h2 ⊢; exact ⟨ι', I', e', h', h1, h2⟩
      · rw [if_neg e1] at h2 ⊢; exact ⟨ι', I', e', h', h1, h2⟩
    | ret => first | exact hq | simpa only [Exit.then, Exit.inBlock, QR, AfterR] using hq
    | panic ch => first | exact hq | simpa only [Exit.then, Exit.inBlock, QR, AfterR] using hq
    | goto l => exact hq
    | outgrown => exact hq
  | blk _ ih =>
    intro hs
    simp only [List.all_cons, Bool.and_eq_true] at hs
    simpa only [AfterR] using ih hs.2
  | exit hp _ ih =>
    intro hs
    simp only [List.all_cons, Bool.and_eq_true] at hs
    simp only [AfterR]
    exact fun cx a w ι I hA => wpIn_exit ⟨ι, I, _, _, hA, AfterR_exit hp (ih (popTo_simp hp hs.2))⟩
  | ret hq =>
    intro hs
    simp only [AfterR]
    exact fun cx a w ι I hA => wpIn_ret ⟨ι, I, _, _, hA, by rw [AfterR_ret]; exact hq⟩
  | region _ ih =>
    intro hs
    simp only [List.all_cons, Bool.and_eq_true, simpI, simpC] at hs ih
    have hk := ih ⟨hs.1.2, hs.2⟩
    simp only [AfterR] at hk ⊢
    exact fun cx a w ι I hA => wpIn_region_list (hk cx a w ι I hA)
  | opsN _ ih =>
    intro hs
    simp only [List.all_cons, Bool.and_eq_true] at hs
    simp only [AfterR]
    exact fun cx a w ι I hA => wpListIn_nil ⟨ι, I, _, _, hA, ih hs.2⟩
  | guard hg hd hy _ _ i1 i2 =>
    intro hs
    simp only [List.all_cons, Bool.and_eq_true, simpI, bne_iff_ne, ne_eq] at hs i1 i2
    simp only [AfterR] at i1 i2 ⊢
    intro cx a w ι I hA
    have hyy := hA.env.yld hy
    rename_i o all rest k e h j b b' _ _
    by_cases hb : b' = b
    · have h1 := i1 hb hs cx a w ι I hA
      subst hb
      unfold wpListIn at h1 ⊢
      rw [if_pos (by simp [Region.wanted])] at h1
      rw [if_pos (by simp [Region.wanted, hg, hyy])]
      exact guard_freeR hF o a w _ _ hs.1.1 h1
    · have h1 := i2 hb ⟨hs.1.2, hs.2⟩ cx (a.put o.dst Go.undef) w ι I (hA.put hA.inv (Ext.refl _ _ _ _) (Nat.le_refl _) hd arel_skip trivial)
      unfold wpListIn
      rw [if_neg (by simp [Region.wanted, hg, hyy, hb])]
      exact ⟨fun f _ => hF.fn f, h1⟩
  | guardU hg hd hy _ ih =>
    intro hs
    simp only [List.all_cons, Bool.and_eq_true, simpI, bne_iff_ne, ne_eq] at hs ih
    simp only [AfterR] at ih ⊢
    intro cx a w ι I hA
    have hyy := hA.env.yldU hy
    rename_i o all rest k e h j b _
    have h1 := ih ⟨hs.1.2, hs.2⟩ cx (a.put o.dst Go.undef) w ι I (hA.put hA.inv (Ext.refl _ _ _ _) (Nat.le_refl _) hd arel_skip trivial)
    unfold wpListIn
    rw [if_neg (by simp [Region.wanted, hg, hyy])]
    exact ⟨fun f _ => hF.fn f, h1⟩
  | opA hg hk0 hd hss _ ih =>
    intro hs
    simp only [List.all_cons, Bool.and_eq_true, simpI, bne_iff_ne, ne_eq] at hs ih
    have hk := ih ⟨hs.1.2, hs.2⟩
    simp only [AfterR] at hk ⊢
    intro cx a w ι I hA
    refine wpListIn_plain hg fun K hK => ?_
    refine ⟨fun f _ => hF.fn f, ?_⟩
    rw [hF.sem _ _ hs.1.1]
    rename_i o all rest k e h v h' _
    have gen : sop P e h o.op = some (v, h') → o.uponIn F n P a K (QR N pin cx (AfterR P F n N pin Q k)) ((execOp a.eval o).run P w) := by
      intro hs
      obtain ⟨r, h1, h2⟩ := sop_sound hA.inv hA.env o hs
      obtain ⟨u, w', ι', I', rfl, k1, k2, k3, k4, k5⟩ := h2
      rw [h1]
      simp only [Result.andThen_ok, Oper.uponIn_value]
      exact hK _ _ (hk cx _ w' ι' I' (hA.put k1 k2 k3 hd k4 k5))
    unfold Go.Proofs.YtahamnipffckhaaDoor.opA at hss
    split at hss
    · rename_i t x y hop
      split at hss <;> cases hss
      rename_i h1 hst
      obtain ⟨x1, x2⟩ := opd_rel hA.env x
      obtain ⟨y1, y2⟩ := opd_rel hA.env y
      obtain ⟨w', s1, s2, s3, s4⟩ := stR_sound hA.inv x1 y1 y2 hst
      have hr : (execOp a.eval o).run P w = .ok .skip w' := by
        obtain ⟨dst, op, type, pos, after, guard⟩ := o
        simp only at hop
        subst hop
        simp [execOp, s1]
      rw [hr, Oper.uponIn_skip]
      exact hK _ _ (hk cx _ w' ι I (hA.put s2 s3 (by omega) hd trivial trivial))
    · rename_i t m k x hop
      split at hss <;> cases hss
      rename_i h1 hst
      obtain ⟨m1, m2⟩ := opd_rel hA.env m
      obtain ⟨k1, k2⟩ := opd_rel hA.env k
      obtain ⟨x1, x2⟩ := opd_rel hA.env x
      obtain ⟨w', s1, s2, s3, s4⟩ := muR_sound hA.inv m1 k1 x1 x2 hst
      have hr : (execOp a.eval o).run P w = .ok .skip w' := by
        obtain ⟨dst, op, type, pos, after, guard⟩ := o
        simp only at hop
        subst hop
        simp [execOp, s1]
      rw [hr, Oper.uponIn_skip]
      exact hK _ _ (hk cx _ w' ι I (hA.put s2 s3 (by omega) hd trivial trivial))
    · exact gen hss
  | call hg hd ho hf hc _ hp ih =>
    intro hs
    simp only [List.all_cons, Bool.and_eq_true, simpI, bne_iff_ne, ne_eq] at hs ih
    have hk := fun v h' hr => ih v h' hr ⟨hs.1.2, hs.2⟩
    simp only [AfterR] at hk ⊢
    intro cx a w ι I hA
    refine wpListIn_plain hg fun K hK => ?_
    refine ⟨fun f _ => hF.fn f, ?_⟩
    rw [hF.sem _ _ hs.1.1]
    rename_i o all rest k e h x args argTypes f caps R _
    obtain ⟨x1, x2⟩ := opd_rel hA.env x
    obtain ⟨o1, o2⟩ := opd_list hA.env args.toList
    have hcall : ∃ vs, (execOp a.eval o).run P w = .ok (.enter f vs.toArray) w ∧ arelL w I ι (args.toList.map (opd e) ++ caps) vs ∧ AV.ltL h.length (args.toList.map (opd e) ++ caps) := by
      obtain ⟨dst, op, type, pos, after, guard⟩ := o
      simp only at ho
      subst ho
      have ha : args.map a.eval = (args.toList.map a.eval).toArray := by rw [← Array.toList_inj]; simp
      unfold fnOf at hf
      split at hf <;> cases hf
      · rename_i hx
        rw [hx] at x1
        simp only [arel, rel] at x1
        refine ⟨args.toList.map a.eval, ?_, by simpa using o1, by simpa using o2⟩
        simp only [execOp, resolve, Sem.run_bind, Sem.run_pure, Result.andThen_ok, x1, Deferred.ofValue, invoke, ha]
        simpa using hc.1 _ w
      · rename_i hx
        rw [hx] at x1 x2
        simp only [arel, AV.lt] at x1 x2
        obtain ⟨vs, e1, e2⟩ := x1
        refine ⟨args.toList.map a.eval ++ vs, ?_, arelL_append o1 e2, ?_⟩
        · simp only [execOp, resolve, Sem.run_bind, Sem.run_pure, Result.andThen_ok, e1, Deferred.ofValue, invoke, ha]
          simpa using hc.1 _ w
        · rw [AV.ltL_iff] at o2 x2 ⊢
          intro c hc
          rcases List.mem_append.1 hc with h1 | h1
          · exact o2 c h1
          · exact x2 c h1
    obtain ⟨vs, e1, e2, e3⟩ := hcall
    rw [e1, Oper.uponIn_enter]
    refine ⟨fun hd => (hF.depth hd).elim, ?_⟩
    refine (hF.calls _ _ _ _ _ (hc.2 cx.G ι I w vs hA.inv e2 e3)).mono ?_
    intro en w' hq
    cases en with
    | returned u =>
      obtain ⟨ι', I', v, h', k1, k2, k3, k4, k5, k6⟩ := hq
      exact hK _ _ (hk v h' k6 cx _ w' ι' I' (hA.put k1 k2 k3 hd k4 k5))
    | panicked ch =>
      obtain ⟨ι', I', p, v, h', k0, k1, k2, k3, k4, k5⟩ := hq
      exact ⟨ι', I', e, h', p, v, k0, ⟨k1, hA.env.ext k2 k3, hA.ext.trans k2 hA.pin, Nat.le_trans hA.pin k3, hA.dfr⟩, k4, by rw [AfterR_pan]; exact hp p h' k5⟩
    | outgrown => exact hq.elim
  | back hr => intro _; simpa only [AfterR] using hr
  | stop hst ha =>
    intro hs
    rename_i it k e h
    simp only [List.all_cons, Bool.and_eq_true] at hs
    exfalso
    cases it with
    | code c => cases c <;> simp_all [isStop, simpI, simpC]
    | ops all l =>
      cases l with
      | nil => simp [isStop] at hst
      | cons o l =>
        simp only [isStop, Bool.and_eq_true, beq_iff_eq] at hst
        simp only [simpI, List.all_cons, Bool.and_eq_true, bne_iff_ne, ne_eq] at hs
        exact hs.1.1 hst.2
    | blk id => simp [isStop] at hst
    | back R => simp [isStop] at hst
end

/-! ### 41. A fresh ghost; blocks that are nobody's -/
def ghostOf (ι : Nat → Nat × Nat) (I : Nat → Prop) (h : AHeap) (W : World) : Ghost := ⟨W, fun b => ∃ i o, h[i]? = some o ∧ o.live (ι i).2 = true ∧ (ι i).1 = b, I⟩
def Guard (b : Nat) (ι : Nat → Nat × Nat) (I : Nat → Prop) (h : AHeap) (W : World) : Prop := b < W.heap.size ∧ ¬ I b ∧ ∀ i o, h[i]? = some o → o.live (ι i).2 = true → (ι i).1 ≠ b
section
variable {G : Ghost} {ι ι' : Nat → Nat × Nat} {I I' : Nat → Prop} {h h' : AHeap} {W W' : World} {b b' : Nat}
theorem Inv.fresh (hI : Inv G ι I h W) : Inv (ghostOf ι I h W) ι I h W :=
  ⟨rfl, rfl, ⟨rfl, Nat.le_refl _⟩, Nat.le_refl _, fun _ _ _ => rfl, fun _ x => x, fun b x => ⟨(hI.bound b x).1, .inl x⟩, hI.obj, fun id o ho hl => ⟨(hI.own id o ho hl).1, (hI.own id o ho hl).2.1, .inl ⟨id, o, ho, hl, rfl⟩⟩, hI.inj⟩
theorem Inv.back (hI : Inv G ι I h W) (hJ : Inv (ghostOf ι I h W) ι' I' h' W') : Inv G ι' I' h' W' := by
  have hown : ∀ b, (ghostOf ι I h W).O b ∨ W.heap.size ≤ b → G.O b ∨ G.w0.heap.size ≤ b := by
    rintro b (⟨i, o, ho, hl, rfl⟩ | hb)
    · exact (hI.own i o ho hl).2.2
    · exact .inr (Nat.le_trans hI.size hb)
  refine ⟨hJ.os.trans hI.os, hJ.tape.trans hI.tape, ⟨hJ.output.1.trans hI.output.1, Nat.le_trans hI.output.2 hJ.output.2⟩, Nat.le_trans hI.size hJ.size, fun b h1 h2 => ?_, fun b hb => hJ.sub b (hI.sub b hb), fun b hb => ?_, hJ.obj, fun id o ho hl => ?_, hJ.inj⟩
  · refine (hJ.frame b (Nat.lt_of_lt_of_le h1 hI.size) fun hO => ?_).trans (hI.frame b h1 h2)
    rcases hown b (.inl hO) with q | q
    · exact h2 q
    · omega
  · obtain ⟨h1, h2⟩ := hJ.bound b hb
    refine ⟨h1, ?_⟩
    rcases h2 with q | q | q
    · exact (hI.bound b q).2
    · exact .inr (hown b (.inl q))
    · exact .inr (hown b (.inr q))
  · obtain ⟨h1, h2, h3⟩ := hJ.own id o ho hl
    exact ⟨h1, h2, hown _ h3⟩
theorem Guard.after (hg : Guard b ι I h W) (hJ : Inv (ghostOf ι I h W) ι' I' h' W') : Guard b ι' I' h' W' ∧ W'.heap[b]? = W.heap[b]? := by
  obtain ⟨g1, g2, g3⟩ := hg
  have hO : ¬ (ghostOf ι I h W).O b := by rintro ⟨i, o, ho, hl, e⟩; exact g3 i o ho hl e
  refine ⟨⟨Nat.lt_of_lt_of_le g1 hJ.size, fun hb => ?_, fun i o ho hl e => ?_⟩, hJ.frame b g1 hO⟩
  · rcases (hJ.bound b hb).2 with q | q | q
    · exact g2 q
    · exact hO q
    · exact absurd g1 (Nat.not_lt.2 q)
  · rcases (hJ.own i o ho hl).2.2 with q | q
    · exact hO (e ▸ q)
    · rw [e] at q; exact absurd g1 (Nat.not_lt.2 q)
theorem Inv.putObj (hI : Inv G ι I h W) (hg : Guard b ι I h W) (hb : G.w0.heap.size ≤ b) (o : Obj) : Inv G ι I h (W.putObj b o) ∧ Ext I I ι ι h.length W (W.putObj b o) := by
  obtain ⟨g1, g2, g3⟩ := hg
  have hE : Ext I I ι ι h.length W (W.putObj b o) := ⟨fun _ x => x, fun k hk => World.putObj_heap_other (fun e => g2 (e ▸ hk)), fun _ _ => rfl⟩
  refine ⟨⟨hI.os, hI.tape, hI.output, by rw [World.putObj_size]; exact hI.size, fun k h1 h2 => (World.putObj_heap_other (by omega)).trans (hI.frame k h1 h2), hI.sub, fun k hk => by rw [World.putObj_size]; exact hI.bound k hk, fun id o' ho => ?_, fun id o' ho hl => by rw [World.putObj_size]; exact hI.own id o' ho hl, hI.inj⟩, hE⟩
  obtain ⟨h1, h2⟩ := hI.obj id o' ho
  exact ⟨h1, objRel_ext hE (fun hl => World.putObj_heap_other (g3 id o' ho hl)) h1 h2⟩
theorem Guard.putObj (hg : Guard b' ι I h W) (o : Obj) : Guard b' ι I h (W.putObj b o) := ⟨by rw [World.putObj_size]; exact hg.1, hg.2.1, hg.2.2⟩
theorem Inv.allocX (hI : Inv G ι I h W) (o : Obj) : Inv G ι I h (W.alloc o) ∧ Ext I I ι ι h.length W (W.alloc o) ∧ Guard W.heap.size ι I h (W.alloc o) := by
  obtain ⟨k1, k2⟩ := hI.grow (I' := I) ((Below.refl W.heap.size W).alloc (Nat.le_refl _) o) (Nat.le_refl _) (fun _ x => x) (fun _ x => .inl x)
  refine ⟨k1, k2, by simp, fun hb => ?_, fun i o' ho hl e => ?_⟩
  · exact absurd (hI.bound _ hb).1 (Nat.lt_irrefl _)
  · have := (hI.own i o' ho hl).1; omega
theorem Guard.alloc (hg : Guard b ι I h W) (o : Obj) : Guard b ι I h (W.alloc o) := ⟨by have := hg.1; simp; omega, hg.2.1, hg.2.2⟩
end

/-! ### 42. A range over a function that goes backward over a slice -/
/-- What the iterator does: it hands the elements over, the last one first. -/
def IterBack (P : Program) (gf : FuncId) (sz : Nat) : Prop := ∀ (n r m bx : Nat) (es : List (List PV)) (St : Nat → (Nat → Nat × Nat) → (Nat → Prop) → AHeap → World → Prop), (∀ c ∈ es, c.length = sz) →
  (∀ k ι I h W, St k ι I h W → (∃ G, Inv G ι I h W) ∧ h.length = m ∧ h[bx]? = some (.box [.pv (.sl es)])) →
  (∀ k ι I h W ι' I' W', St k ι I h W → Inv (ghostOf ι I h W) ι' I' h W' → Ext I I' ι ι' m W W' → St k ι' I' h W') →
  (∀ k ι I h W v, St k ι I h W → k < es.length → rel W I (.agg (es.getD (es.length - 1 - k) [])) v →
    YieldAt Fence.wide n P r #[.int .i64 ((es.length - 1 - k : Nat) : Int), v] W fun en W' => en = .returned (.bool true) ∧ ∃ ι' I' h', St (k + 1) ι' I' h' W' ∧ Ext I I' ι ι' m W W') →
  ∀ ι I h W, St 0 ι I h W → CallsIn Fence.wide (n + 1) P gf #[.func (.yield r) #[] #[], .pointer (some ⟨(ι bx).1, 0, none⟩)] W fun en W' => (∃ v, en = .returned v) ∧ ∃ ι' I' h', St es.length ι' I' h' W' ∧ Ext I I' ι ι' m W W'
section
variable {P : Program} {N pin : Nat}
def noQ : AQ := fun _ _ _ => False
theorem range_in {n : Nat} {cx : Cx} {e : AEnv} {h : AHeap} {a : Act} {W : World} {ι : Nat → Nat × Nat} {I : Nat → Prop} (hA : At N pin cx e h a W ι I) {g : Operand} {assign body : Code} {p1 p2 : Nat} {gf : FuncId} {bx sz : Nat} {es : List (List PV)}
    {J : Nat → AHeap → Prop} {JA : Nat → AEnv → AHeap → Prop} {Q : Exit → Act → World → Prop} (hg : opd e g = .fn gf [.ptr bx 0]) (hJ : ∀ k h', J k h' → h'.length = h.length ∧ h'[bx]? = some (.box [.pv (.sl es)])) (hp1 : p1 < N) (hp2 : p2 < N)
    (hs1 : simpC assign = true) (hs2 : simpC body = true) (hIt : IterBack P gf sz) (hes : ∀ c ∈ es, c.length = sz) (hent : Ent P gf) (h0 : J 0 h)
    (hAs : ∀ k h', k < es.length → J k h' → VcZ true P N h.length noQ [.code assign, .back (JA k)] ((e.put p1 (.pv (.int .i64 ((es.length - 1 - k : Nat) : Int)))).put p2 (.pv (.agg (es.getD (es.length - 1 - k) [])))) h')
    (hBo : ∀ k e' h', k < es.length → JA k e' h' → VcZ true P N h.length noQ [.code body, .back (fun e'' h'' => WkP h.length e'' h'' fun _ h2 => J (k + 1) h2)] e' h')
    (hdone : ∀ D ι' I' h' W', J es.length h' → Inv cx.G ι' I' h' W' → Ext I I' ι ι' h.length W W' → Guard D ι' I' h' W' → W'.heap[D]? = some (.deferred (some [])) → cx.G.w0.heap.size ≤ D → Q .normal { a with defers := { target := .collected D, args := #[] } :: a.defers } W') :
    (Code.rangeFunc g #[p1, p2] assign body).wpIn Fence.wide (n + 2) P Q a W := by
  refine wpIn_rangeFunc ?_
  intro fn hfn
  rw [Fence.wide_round]
  have hgv := (opd_rel hA.env g).1
  rw [hg] at hgv
  simp only [arel, arelL] at hgv
  obtain ⟨_, hgv, _, _, rfl, rfl, rfl⟩ := hgv
  obtain ⟨rec, hrec⟩ : ∃ rec : LoopState → Option Code → Loop, rec = fun st pe => { state := st, pending := pe, fn, tmps := a.tmps, params := #[p1, p2], assign, body, defers := W.heap.size } := ⟨_, rfl⟩
  obtain ⟨a1, a2, a3⟩ := hA.inv.allocX (.deferred (some []))
  obtain ⟨b1, b2, b3⟩ := a1.allocX (.loop (rec .ready none))
  have a4 := a3.alloc (.loop (rec .ready none))
  obtain ⟨W1, hW1⟩ : ∃ W1, (W.alloc (.deferred (some []))).alloc (.loop (rec .ready none)) = W1 := ⟨_, rfl⟩
  rw [World.size_alloc] at b3
  have hL1 : W1.heap[W.heap.size + 1]? = some (.loop (rec .ready none)) := by
    rw [← hW1]; have := World.alloc_heap_new (W.alloc (.deferred (some []))) (.loop (rec .ready none)); rwa [World.size_alloc] at this
  have hK1 : W1.heap[W.heap.size]? = some (.deferred (some [])) := by
    rw [← hW1]; exact (Below.heap_alloc _ _ _ (by simp)).trans (World.alloc_heap_new W _)
  rw [hW1] at b1 b2 b3 a4
  have hGs := hA.inv.size
  refine ⟨W.heap.size + 1, [{ target := .collected W.heap.size, args := #[] }], W1, { target := .fn (.func gf) #[.pointer (some ⟨(ι bx).1, 0, none⟩)], args := #[.func (.yield (W.heap.size + 1)) #[] #[]] }, W1, gf,
    #[.func (.yield (W.heap.size + 1)) #[] #[]] ++ #[.pointer (some ⟨(ι bx).1, 0, none⟩)], W1, ?_, ?_, fun f _ => trivial, ?_, (fun _ => by omega), ?_⟩
  · rw [← hW1, hrec]; exact run_enterLoop_outer _ _ _ _ _
  · simp only [resolve, hgv]
    simp [go_sem, Deferred.ofValue]
  · have := hent (#[.func (.yield (W.heap.size + 1)) #[] #[]] ++ #[.pointer (some ⟨(ι bx).1, 0, none⟩)]) W1
    simpa [invoke] using this
  have hend := hIt n (W.heap.size + 1) h.length bx es (fun k ι' I' h' W' => J k h' ∧ Inv cx.G ι' I' h' W' ∧ Ext I I' ι ι' h.length W W' ∧ Guard (W.heap.size + 1) ι' I' h' W' ∧ Guard W.heap.size ι' I' h' W' ∧ W'.heap[W.heap.size + 1]? = some (.loop (rec .ready none)) ∧ W'.heap[W.heap.size]? = some (.deferred (some []))) hes
    (fun k ι' I' h' W' hs => ⟨⟨_, hs.2.1⟩, (hJ k h' hs.1).1, (hJ k h' hs.1).2⟩)
    (fun k ι1 I1 h1 W1 ι2 I2 W2 hs hi hE => by
      obtain ⟨s1, s2, s3, s4, s5, s6, s7⟩ := hs
      obtain ⟨t1, t2⟩ := s4.after hi
      obtain ⟨t3, t4⟩ := s5.after hi
      exact ⟨s1, s2.back hi, s3.trans hE (Nat.le_refl _), t1, t3, t2.trans s6, t4.trans s7⟩)
    (fun k ι1 I1 h1 W1 v hs hk hv => by
      obtain ⟨s1, s2, s3, s4, s5, s6, s7⟩ := hs
      have hlen := (hJ k h1 s1).1
      have hy := run_yield (P := P) (args := #[.int .i64 ((es.length - 1 - k : Nat) : Int), v]) s6 (by rw [hrec]; rfl)
      rw [hrec] at hy
      refine ⟨fn, _, assign, body, hy, roundIn_of_wpIn trivial ?_⟩
      -- the assignment to the loop's variables
      have hA1 : At N h.length ⟨ghostOf ι1 I1 h1 W1, ι1, I1, W1, []⟩ ((e.put p1 (.pv (.int .i64 ((es.length - 1 - k : Nat) : Int)))).put p2 (.pv (.agg (es.getD (es.length - 1 - k) [])))) h1
          { tmps := ((#[p1, p2] : Array Tmp).zip #[.int .i64 ((es.length - 1 - k : Nat) : Int), v]).foldl (fun tmps (t, a) => tmps.setIfInBounds t a) a.tmps, defers := [] } W1 ι1 I1 := by
        have hE1 : ERel N h1.length W1 I1 ι1 e { tmps := a.tmps, defers := [] } := by
          have := hA.env.ext s3 (m := h1.length) (by omega)
          exact ⟨this.size, this.out, this.lt, this.rel⟩
        have hE2 := (hE1.put hp1 (v := .pv (.int .i64 ((es.length - 1 - k : Nat) : Int))) (u := .int .i64 ((es.length - 1 - k : Nat) : Int)) (by simp only [arel, rel]) trivial).put hp2 (v := .pv (.agg (es.getD (es.length - 1 - k) []))) (u := v) (by simp only [arel]; exact hv) trivial
        refine ⟨s2.fresh, ?_, Ext.refl _ _ _ _, by omega, rfl⟩
        have e1 : ({ tmps := ((#[p1, p2] : Array Tmp).zip #[.int .i64 ((es.length - 1 - k : Nat) : Int), v]).foldl (fun tmps (t, a) => tmps.setIfInBounds t a) a.tmps, defers := [] } : Act) = ((({ tmps := a.tmps, defers := [] } : Act).put (some p1) (.int .i64 ((es.length - 1 - k : Nat) : Int))).put (some p2) v) := by
          simp [Act.put]
        rw [e1]
        exact hE2
      have hw1 := Vc.soundR (fok_round (P := P) (W.heap.size + 1)) (n := n) (hAs k h1 hk s1) (by simp [simpI, hs1])
      simp only [AfterR] at hw1
      refine wpIn_mono (hw1 _ _ _ _ _ hA1) ?_
      intro ex a1 W2 hq
      cases ex with
      | exit id => obtain ⟨_, _, _, _, _, hf⟩ := hq; simp only [AfterR] at hf; exact hf.elim
      | ret => obtain ⟨_, _, _, _, _, hf⟩ := hq; rw [AfterR_ret] at hf; exact hf.elim
      | panic ch => obtain ⟨_, _, _, _, _, _, _, _, _, hf⟩ := hq; rw [AfterR_pan] at hf; exact hf.elim
      | goto l => exact hq.elim
      | outgrown => exact hq.elim
      | normal =>
        obtain ⟨ι2, I2, e2, h2, hA2, hJ2⟩ := hq
        simp only [AfterR] at hJ2
        obtain ⟨t1, t2⟩ := s4.after hA2.inv
        obtain ⟨t3, t4⟩ := s5.after hA2.inv
        have i2 := s2.back hA2.inv
        have hl2 := t2.trans s6
        refine ⟨_, run_beginRound hl2 (by rw [hrec]), ?_⟩
        obtain ⟨i3, x3⟩ := i2.putObj t1 (by omega) (.loop { rec .ready none with state := .busy })
        have g3 : Guard (W.heap.size + 1) ι2 I2 h2 (W2.putObj (W.heap.size + 1) (.loop { rec .ready none with state := .busy })) := t1.putObj _
        have g4 : Guard W.heap.size ι2 I2 h2 (W2.putObj (W.heap.size + 1) (.loop { rec .ready none with state := .busy })) := t3.putObj _
        have hl3 : (W2.putObj (W.heap.size + 1) (.loop { rec .ready none with state := .busy })).heap[W.heap.size + 1]? = some (.loop { rec .ready none with state := .busy }) := World.putObj_heap_same t1.1
        have hk3 : (W2.putObj (W.heap.size + 1) (.loop { rec .ready none with state := .busy })).heap[W.heap.size]? = some (.deferred (some [])) := (World.putObj_heap_other (by omega)).trans (t4.trans s7)
        generalize W2.putObj (W.heap.size + 1) (.loop { rec .ready none with state := .busy }) = W3 at i3 x3 g3 g4 hl3 hk3 ⊢
        have hA3 : At N h.length ⟨ghostOf ι2 I2 h2 W3, ι2, I2, W3, []⟩ e2 h2 a1 W3 ι2 I2 := ⟨i3.fresh, hA2.env.ext x3 (Nat.le_refl _), Ext.refl _ _ _ _, hA2.pin, hA2.dfr⟩
        have hw2 := Vc.soundR (fok_round (P := P) (W.heap.size + 1)) (n := n) (hBo k e2 h2 hk hJ2) (by simp [simpI, hs2])
        simp only [AfterR] at hw2
        refine wpIn_mono (hw2 _ _ _ _ _ hA3) ?_
        intro ex a3 W4 hq
        cases ex with
        | exit id => obtain ⟨_, _, _, _, _, hf⟩ := hq; simp only [AfterR] at hf; exact hf.elim
        | ret => obtain ⟨_, _, _, _, _, hf⟩ := hq; rw [AfterR_ret] at hf; exact hf.elim
        | panic ch => obtain ⟨_, _, _, _, _, _, _, _, _, hf⟩ := hq; rw [AfterR_pan] at hf; exact hf.elim
        | goto l => exact hq.elim
        | outgrown => exact hq.elim
        | normal =>
          obtain ⟨ι4, I4, e4, h4, hA4, hJ4⟩ := hq
          simp only [AfterR] at hJ4
          obtain ⟨e5, h5, hwk, hJ5⟩ := hJ4
          obtain ⟨ι5, I5, q1, q2, q3, q4⟩ := hwk _ ι4 I4 W4 a3 N hA4.inv hA4.env hA4.pin
          obtain ⟨u1, u2⟩ := g3.after q1
          obtain ⟨u3, u4⟩ := g4.after q1
          have i5 := i3.back q1
          have hl5 := u2.trans hl3
          have her := run_endRound (P := P) none hl5
          obtain ⟨i6, x6⟩ := i5.putObj u1 (by omega) (.loop (rec .ready none))
          refine ⟨.bool true, W4.putObj (W.heap.size + 1) (.loop (rec .ready none)), ?_, rfl, ι5, I5, h5, ⟨hJ5, i6, ?_, u1.putObj _, u3.putObj _, World.putObj_heap_same u1.1, (World.putObj_heap_other (by omega)).trans (u4.trans hk3)⟩, ?_⟩
          · rw [her, hrec]; rfl
          all_goals
            have y1 : Ext I1 I2 ι1 ι2 h.length W1 W2 := hA2.ext
            have y2 : Ext I2 I2 ι2 ι2 h2.length W2 W3 := x3
            have y3 : Ext I2 I4 ι2 ι4 h.length W3 W4 := hA4.ext
            have hl5 : h5.length = h.length := (hJ _ _ hJ5).1
            have y := (((y1.trans y2 hA2.pin).trans y3 (Nat.le_refl _)).trans q3 (Nat.le_refl _)).trans x6 (by omega)
          · exact s3.trans y (Nat.le_refl _)
          · exact y)
    ι I h W1 ⟨h0, b1, a2.trans b2 (Nat.le_refl _), b3, a4, hL1, hK1⟩
  refine hend.mono ?_
  rintro en W2 ⟨⟨v, rfl⟩, ι2, I2, h2, ⟨s1, s2, s3, s4, s5, s6, s7⟩, _⟩
  have hel := run_endLoop (P := P) s6 (by rw [hrec]; simp)
  obtain ⟨i6, x6⟩ := s2.putObj s4 (by omega) (.loop { rec .ready none with state := .exhausted })
  have hl2 := (hJ _ _ s1).1
  subst hrec
  refine ⟨none, _, hel, ?_⟩
  refine hdone W.heap.size ι2 I2 h2 _ s1 i6 (s3.trans x6 (by omega)) (s5.putObj _) ((World.putObj_heap_other (by omega)).trans s7) hGs
end

/-! ### 43. A function that holds one range over a function -/
section
variable {P : Program} {N pin : Nat} {Q : AQ}
theorem code_in {n : Nat} {cx : Cx} {x y : Code} {k : List It} {e : AEnv} {h : AHeap} {a : Act} {w : World} {ι : Nat → Nat × Nat} {I : Nat → Prop} {R : Exit → Act → World → Prop} (hA : At N pin cx e h a w ι I) (hv : After P N pin Q (.code x :: k) .norm e h)
    (hk : ∀ e' h' a' w' ι' I', After P N pin Q k .norm e' h' → At N pin cx e' h' a' w' ι' I' → y.wpIn Fence.wide n P R a' w') (hq : ∀ x a w, QR N pin cx (After P N pin Q k) x a w → x ≠ .normal → R x a w) : (Code.seq x y).wpIn Fence.wide n P R a w := by
  simp only [After] at hv
  refine wpIn_seq (wpIn_mono (wpIn_wide.2 (hv cx a w ι I hA)) ?_)
  intro ex a' w' hx
  cases ex with
  | normal =>
    obtain ⟨ι', I', e', h', h1, h2⟩ := hx
    exact hk e' h' a' w' ι' I' h2 h1
  | exit id => exact hq _ _ _ hx (by simp)
  | ret => exact hq _ _ _ hx (by simp)
  | panic ch => exact hq _ _ _ hx (by simp)
  | goto l => exact hx.elim
  | outgrown => exact hx.elim
theorem fnK_of_range {f : FuncId} {fn : Func} {x1 x2 x3 x4 B assign body : Code} {bid : Nat} {g : Operand} {p1 p2 : Nat} {args : List AV} {h : AHeap} {K : CR → AHeap → Prop} {rs : Array ResultVar} {gf : FuncId} {bx m sz : Nat} {es : List (List PV)}
    {JL : AEnv → AHeap → Prop} {J : Nat → AHeap → Prop} {JA : Nat → AEnv → AHeap → Prop}
    (hf : P.funcs[f]? = some fn) (hb : fn.body = some (.seq x1 (.seq x2 (.seq x3 (.seq (.seq x4 (.block bid (.rangeFunc g #[p1, p2] assign body))) B))))) (hn : (fn.name == "runtime.NumGoroutine") = false) (hN : fn.ntmps = N) (hrs : fn.results = rs)
    (ha : args.length ≤ N) (hpin : pin ≤ h.length)
    (hv : VcZ true P N pin (RetQ P rs K) [.code x1, .code x2, .code x3, .code x4, .back (fun e h => WkP pin e h JL)] (argE args) h)
    (hIt : IterBack P gf sz) (hes : ∀ c ∈ es, c.length = sz) (hent : Ent P gf) (hp1 : p1 < N) (hp2 : p2 < N) (hs1 : simpC assign = true) (hs2 : simpC body = true)
    (hL : ∀ e h, JL e h → opd e g = .fn gf [.ptr bx 0] ∧ h.length = m ∧ J 0 h)
    (hJ : ∀ k h', J k h' → h'.length = m ∧ h'[bx]? = some (.box [.pv (.sl es)]))
    (hAs : ∀ e h0 k h', JL e h0 → k < es.length → J k h' → VcZ true P N m noQ [.code assign, .back (JA k)] ((e.put p1 (.pv (.int .i64 ((es.length - 1 - k : Nat) : Int)))).put p2 (.pv (.agg (es.getD (es.length - 1 - k) [])))) h')
    (hBo : ∀ k e' h', k < es.length → JA k e' h' → VcZ true P N m noQ [.code body, .back (fun e'' h'' => WkP m e'' h'' fun _ h2 => J (k + 1) h2)] e' h')
    (hB : ∀ e h0 h', JL e h0 → J es.length h' → VcZ true P N m (RetQ P rs K) [.code B] e h') : FnK P f args h pin K := by
  subst hrs
  refine ⟨ent_of hf hb hn, fun G ι I w vs hI hr hl => callsIn_wide.1 (callsIn_of_wp_marks (n := 5) hf hb trivial ?_ rfl)⟩
  have hsz : vs.length = args.length := arelL_length hr
  have hout : ∀ t, args.length ≤ t → args.getD t .undef = .undef := fun t h1 => by simp [List.getD_eq_getElem?_getD, List.getElem?_eq_none h1]
  have hin : ∀ t (h1 : t < args.length), args.getD t .undef = args[t] := fun t h1 => by simp [List.getD_eq_getElem?_getD, h1]
  have hA : At N pin ⟨G, ι, I, w, []⟩ (argE args) h { tmps := vs.toArray ++ Array.replicate (fn.ntmps - vs.toArray.size) undef, defers := [] } w ι I := by
    refine ⟨hI, ⟨by simp; omega, fun t ht => ?_, fun t => ?_, fun t => ?_⟩, Ext.refl _ _ _ _, hpin, rfl⟩
    · simp only [argE]; exact hout t (by omega)
    · simp only [argE]
      rcases Nat.lt_or_ge t args.length with h1 | h1
      · rw [hin t h1]; exact AV.ltL_iff.1 hl _ (List.getElem_mem h1)
      · rw [hout t h1]; trivial
    · simp only [argE]
      rcases Nat.lt_or_ge t args.length with h1 | h1
      · rw [hin t h1]
        obtain ⟨u, e1, e2⟩ := arelL_get hr (List.getElem?_eq_getElem h1)
        have : ((vs.toArray ++ Array.replicate (fn.ntmps - vs.toArray.size) undef).getD t undef) = u := by
          have h2 : t < vs.length := by omega
          simp only [Array.getD_eq_getD_getElem?]
          rw [Array.getElem?_append_left (by simpa using h2)]
          simp [e1]
        rw [this]; exact e2
      · rw [hout t h1]; simp [arel]
  have fin : ∀ a' w', St N pin ⟨G, ι, I, w, []⟩ (RetQ P fn.results K .ret) a' w' → a'.defers = [] ∧ ∃ v, (results fn a'.tmps).run P w' = .ok v w' ∧ CPost pin G ι I w K (.returned v) w' := by
    rintro a' w' ⟨ι', I', e', h', h1, vs', h2, h3⟩
    obtain ⟨u, k1, k2, k3⟩ := results_run h1.inv h1.env h2
    exact ⟨h1.dfr, u, k1, ι', I', _, h', h1.inv, h1.ext, h1.pin, k2, k3, h3⟩
  have early : ∀ (k : List It), (∀ id e h, After P N pin (RetQ P fn.results K) k (.exit id) e h → False) → ∀ x a w', QR N pin ⟨G, ι, I, w, []⟩ (After P N pin (RetQ P fn.results K) k) x a w' → x ≠ .normal → bodyPostM Fence.wide 5 P fn (CPost pin G ι I w K) x a w' := by
    intro k hk x a' w' hq hx
    cases x with
    | normal => exact absurd rfl hx
    | exit id => obtain ⟨_, _, e, h, _, hf⟩ := hq; exact (hk id e h hf).elim
    | ret =>
      obtain ⟨d1, v, d2, d3⟩ := fin a' w' (by
        obtain ⟨ι', I', e', h', q1, q2⟩ := hq
        rw [After_ret] at q2
        exact ⟨ι', I', e', h', q1, q2⟩)
      simp only [bodyPostM, d1]
      exact ⟨v, d2, d3⟩
    | panic ch =>
      obtain ⟨ι', I', e', h', p, v, h0, h1, h2, h3⟩ := hq
      rw [After_pan] at h3
      simp only [bodyPostM, h1.dfr]
      exact ⟨ι', I', p, v, h', h0, h1.inv, h1.ext, h1.pin, h2, h3⟩
    | goto l => exact hq.elim
    | outgrown => exact hq.elim
  have noex : ∀ (k : List It), (∀ it ∈ k, ∀ id, it ≠ .blk id) → ∀ id e h, After P N pin (RetQ P fn.results K) k (.exit id) e h → False := by
    intro k
    induction k with
    | nil => intro _ id e h hf; simp only [After, RetQ] at hf
    | cons it k ih =>
      intro hk id e h hf
      cases it with
      | blk id' => exact hk _ (by simp) id' rfl
      | code c => simp only [After] at hf; exact ih (fun it hi => hk it (by simp [hi])) id e h hf
      | ops a l => simp only [After] at hf; exact ih (fun it hi => hk it (by simp [hi])) id e h hf
      | back R => simp only [After] at hf; exact ih (fun it hi => hk it (by simp [hi])) id e h hf
  refine code_in hA (Vc.sound hv) (fun e1 h1 a1 w1 ι1 I1 v1 A1 => ?_) (early _ (noex _ (by simp)))
  refine code_in A1 v1 (fun e2 h2 a2 w2 ι2 I2 v2 A2 => ?_) (early _ (noex _ (by simp)))
  refine code_in A2 v2 (fun e3 h3 a3 w3 ι3 I3 v3 A3 => ?_) (early _ (noex _ (by simp)))
  refine wpIn_seq (code_in A3 v3 (fun e4 h4 a4 w4 ι4 I4 v4 A4 => ?_) (fun x a w hq hx => ?_))
  rotate_left
  · have := early _ (noex _ (by simp)) x a w hq hx
    cases x with
    | normal => exact absurd rfl hx
    | exit id => exact this
    | ret => exact this
    | panic ch => exact this
    | goto l => exact this
    | outgrown => exact this
  simp only [After] at v4
  obtain ⟨eL, hL', hwk, hJL⟩ := v4
  obtain ⟨ι5, I5, q1, q2, q3, q4⟩ := hwk _ ι4 I4 w4 a4 N A4.inv A4.env A4.pin
  have A5 : At N pin ⟨G, ι, I, w, []⟩ eL hL' a4 w4 ι5 I5 := ⟨q1, q2, A4.ext.trans q3 (Nat.le_refl _), q4, A4.dfr⟩
  obtain ⟨l1, l2, l3⟩ := hL eL hL' hJL
  subst l2
  refine wpIn_block (range_in (n := 3) A5 l1 hJ hp1 hp2 hs1 hs2 hIt hes hent l3 (fun k h' hk hj => hAs eL hL' k h' hJL hk hj) hBo ?_)
  intro D ι6 I6 h6 w6 hJ6 i6 x6 g6 d6 hGD
  have hl6 := (hJ _ _ hJ6).1
  show B.wpIn Fence.wide 5 P _ _ w6
  have A6 : At N hL'.length ⟨ghostOf ι6 I6 h6 w6, ι6, I6, w6, [{ target := .collected D, args := #[] }]⟩ eL h6 { a4 with defers := { target := .collected D, args := #[] } :: a4.defers } w6 ι6 I6 := by
    have := A5.env.ext x6 (m := h6.length) (by omega)
    exact ⟨i6.fresh, ⟨this.size, this.out, this.lt, this.rel⟩, Ext.refl _ _ _ _, by omega, by simp [A5.dfr]⟩
  have hw := Vc.sound (hB eL hL' h6 hJL hJ6)
  simp only [After] at hw
  refine wpIn_mono (wpIn_wide.2 (hw _ _ _ _ _ A6)) ?_
  intro ex a7 w7 hq
  -- what lies behind, once the mark is taken
  have take : ∀ {ι7 : Nat → Nat × Nat} {I7 : Nat → Prop} {e7 : AEnv} {h7 : AHeap}, At N hL'.length ⟨ghostOf ι6 I6 h6 w6, ι6, I6, w6, [{ target := .collected D, args := #[] }]⟩ e7 h7 a7 w7 ι7 I7 →
      (Instr.takeDeferred D).run P w7 = .ok [] (w7.putObj D (.deferred none)) ∧ Inv G ι7 I7 h7 (w7.putObj D (.deferred none)) ∧ Ext I7 I7 ι7 ι7 h7.length w7 (w7.putObj D (.deferred none)) ∧ Ext I I7 ι ι7 pin w (w7.putObj D (.deferred none)) ∧ pin ≤ h7.length := by
    intro ι7 I7 e7 h7 A7
    obtain ⟨t1, t2⟩ := g6.after A7.inv
    have i7 := i6.back A7.inv
    obtain ⟨i8, x8⟩ := i7.putObj t1 hGD (.deferred none)
    have p7 := A7.pin
    have p5 := A5.pin
    refine ⟨run_takeDeferred (t2.trans d6), i8, x8, ?_, by omega⟩
    exact ((A5.ext.trans x6 p5).trans A7.ext p5).trans x8 (by omega)
  have finB : St N hL'.length ⟨ghostOf ι6 I6 h6 w6, ι6, I6, w6, [{ target := .collected D, args := #[] }]⟩ (RetQ P fn.results K .ret) a7 w7 → LeavesInM Fence.wide 5 P fn a7.tmps (CPost pin G ι I w K) a7.defers .returning w7 := by
    rintro ⟨ι7, I7, e7, h7, A7, vs', r1, r2⟩
    obtain ⟨s1, s2, s3, s4, s5⟩ := take A7
    rw [A7.dfr]
    refine ⟨by simp, .inl ⟨D, _, rfl, s1, ?_⟩⟩
    obtain ⟨u, k1, k2, k3⟩ := results_run s2 (A7.env.ext s3 (Nat.le_refl _)) r1
    exact ⟨u, k1, ι7, I7, _, h7, s2, s4, s5, k2, k3, r2⟩
  cases ex with
  | normal => exact finB hq
  | ret => exact finB hq
  | exit id => obtain ⟨_, _, _, _, _, hf⟩ := hq; simp only [After, RetQ] at hf
  | panic ch =>
    obtain ⟨ι7, I7, e7, h7, p, v, h0, A7, h2, h3⟩ := hq
    obtain ⟨s1, s2, s3, s4, s5⟩ := take A7
    simp only [bodyPostM]
    rw [A7.dfr]
    refine ⟨by simp, .inl ⟨D, _, rfl, s1, ?_⟩⟩
    exact ⟨ι7, I7, p, v, h7, h0, s2, s4, s5, rel_keep s3.hk s3.hi p v h2, h3⟩
  | goto l => exact hq.elim
  | outgrown => exact hq.elim
theorem pure_of_range {f : FuncId} {fn : Func} {x1 x2 x3 x4 B assign body : Code} {bid : Nat} {g : Operand} {p1 p2 : Nat} {ps : List PV} {r : PV} {rs : Array ResultVar} {gf : FuncId} {bx m sz : Nat} {es : List (List PV)}
    {JL : AEnv → AHeap → Prop} {J : Nat → AHeap → Prop} {JA : Nat → AEnv → AHeap → Prop}
    (hf : P.funcs[f]? = some fn) (hb : fn.body = some (.seq x1 (.seq x2 (.seq x3 (.seq (.seq x4 (.block bid (.rangeFunc g #[p1, p2] assign body))) B))))) (hn : (fn.name == "runtime.NumGoroutine") = false) (hN : fn.ntmps = N) (hrs : fn.results = rs)
    (ha : ps.length ≤ N) (hIt : IterBack P gf sz) (hes : ∀ c ∈ es, c.length = sz) (hent : Ent P gf) (hp1 : p1 < N) (hp2 : p2 < N) (hs1 : simpC assign = true) (hs2 : simpC body = true)
    (hL : ∀ e h, JL e h → opd e g = .fn gf [.ptr bx 0] ∧ h.length = m ∧ J 0 h)
    (hJ : ∀ k h', J k h' → h'.length = m ∧ h'[bx]? = some (.box [.pv (.sl es)]))
    (hv : VcZ true P N 0 (PureQ P rs r) [.code x1, .code x2, .code x3, .code x4, .back (fun e h => WkP 0 e h JL)] (argE (ps.map .pv)) [])
    (hAs : ∀ e h0 k h', JL e h0 → k < es.length → J k h' → VcZ true P N m noQ [.code assign, .back (JA k)] ((e.put p1 (.pv (.int .i64 ((es.length - 1 - k : Nat) : Int)))).put p2 (.pv (.agg (es.getD (es.length - 1 - k) [])))) h')
    (hBo : ∀ k e' h', k < es.length → JA k e' h' → VcZ true P N m noQ [.code body, .back (fun e'' h'' => WkP m e'' h'' fun _ h2 => J (k + 1) h2)] e' h')
    (hB : ∀ e h0 h', JL e h0 → J es.length h' → VcZ true P N m (PureQ P rs r) [.code B] e h') : Pure P f ps r :=
  FnK.freeze (fnK_of_range hf hb hn hN hrs (by simpa using ha) (Nat.zero_le _) hv hIt hes hent hp1 hp2 hs1 hs2 hL hJ hAs hBo hB)
end
end Go.Proofs.YtahamnipffckhaaDoor
