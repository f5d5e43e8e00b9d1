import Derived.Test.YtahamnipffckhaaDoorAm8
set_option linter.unusedVariables false
set_option linter.unusedSimpArgs false
namespace Go.Proofs.YtahamnipffckhaaDoor
open Go Go.RowKit

/-! ### 17. What a call does -/
inductive CR where
  | ret (v : AV)
  | pan (p : PV)
def CPost (pin : Nat) (G : Ghost) (ι : Nat → Nat × Nat) (I : Nat → Prop) (w : World) (K : CR → AHeap → Prop) : Ending → World → Prop
  | .returned v, w' => ∃ ι' I' r h', Inv G ι' I' h' w' ∧ Ext I I' ι ι' pin w w' ∧ pin ≤ h'.length ∧ arel w' I' ι' r v ∧ r.lt h'.length ∧ K (.ret r) h'
  | .panicked ch, w' => ∃ ι' I' p v h', ch = [{ v := v, recovered := false }] ∧ Inv G ι' I' h' w' ∧ Ext I I' ι ι' pin w w' ∧ pin ≤ h'.length ∧ rel w' I' p v ∧ K (.pan p) h'
  | .outgrown, _ => False
def Ent (P : Program) (f : FuncId) : Prop := ∀ args w, (callFunc f args).run P w = .ok (.enter f args) w
/-- What the call of f does, with these arguments, over these own objects, of which the first ones keep their numbers. -/
def FnK (P : Program) (f : FuncId) (args : List AV) (h : AHeap) (pin : Nat) (K : CR → AHeap → Prop) : Prop :=
  Ent P f ∧ ∀ G ι I w vs, Inv G ι I h w → arelL w I ι args vs → AV.ltL h.length args → Calls P f vs.toArray w (CPost pin G ι I w K)
def CallK (P : Program) (f : FuncId) (args : List AV) (h : AHeap) (K : CR → AHeap → Prop) : Prop := FnK P f args h h.length K
@[congr] theorem CallK_congr {P : Program} {f : FuncId} {args args' : List AV} {h h' : AHeap} {K : CR → AHeap → Prop} (h1 : args = args') (h2 : h = h') : CallK P f args h K = CallK P f args' h' K := by subst h1; subst h2; rfl
theorem ent_of {P : Program} {f : FuncId} {fn : Func} {c : Code} (hf : P.funcs[f]? = some fn) (hb : fn.body = some c) (hn : (fn.name == "runtime.NumGoroutine") = false) : Ent P f := by
  intro args w
  have hn' : ¬ fn.name = "runtime.NumGoroutine" := by simpa using hn
  simp [callFunc, hf, hb, hn']
theorem CPost.mono {pin : Nat} {G : Ghost} {ι : Nat → Nat × Nat} {I : Nat → Prop} {w : World} {K K' : CR → AHeap → Prop} (hk : ∀ r h', K r h' → K' r h') : ∀ {en : Ending} {w' : World}, CPost pin G ι I w K en w' → CPost pin G ι I w K' en w'
  | .returned v, w', ⟨ι', I', r, h', h1, h2, h3, h4, h5, h6⟩ => ⟨ι', I', r, h', h1, h2, h3, h4, h5, hk _ _ h6⟩
  | .panicked ch, w', ⟨ι', I', p, v, h', h0, h1, h2, h3, h4, h5⟩ => ⟨ι', I', p, v, h', h0, h1, h2, h3, h4, hk _ _ h5⟩
  | .outgrown, _, h => h.elim
theorem FnK.mono {P : Program} {f : FuncId} {args : List AV} {h : AHeap} {pin : Nat} {K K' : CR → AHeap → Prop} (hc : FnK P f args h pin K) (hk : ∀ r h', K r h' → K' r h') : FnK P f args h pin K' :=
  ⟨hc.1, fun G ι I w vs h1 h2 h3 => (hc.2 G ι I w vs h1 h2 h3).mono fun _ _ => CPost.mono hk⟩
theorem CallK.mono {P : Program} {f : FuncId} {args : List AV} {h : AHeap} {K K' : CR → AHeap → Prop} (hc : CallK P f args h K) (hk : ∀ r h', K r h' → K' r h') : CallK P f args h K' := FnK.mono hc hk

/-! ### 18. What code does -/
structure Cx where
  G : Ghost
  ι : Nat → Nat × Nat
  I : Nat → Prop
  w : World
  ds : List Deferred
structure At (N pin : Nat) (c : Cx) (e : AEnv) (h : AHeap) (a : Act) (w : World) (ι : Nat → Nat × Nat) (I : Nat → Prop) : Prop where
  inv : Inv c.G ι I h w
  env : ERel N h.length w I ι e a
  ext : Ext c.I I c.ι ι pin c.w w
  pin : pin ≤ h.length
  dfr : a.defers = c.ds
inductive AX where
  | norm
  | exit (id : Nat)
  | ret
  | pan (p : PV)
abbrev AQ := AX → AEnv → AHeap → Prop
def St (N pin : Nat) (c : Cx) (R : AEnv → AHeap → Prop) (a : Act) (w : World) : Prop := ∃ ι I e h, At N pin c e h a w ι I ∧ R e h
def QR (N pin : Nat) (c : Cx) (Q : AQ) : Exit → Act → World → Prop
  | .normal, a, w => St N pin c (Q .norm) a w
  | .exit id, a, w => St N pin c (Q (.exit id)) a w
  | .ret, a, w => St N pin c (Q .ret) a w
  | .panic ch, a, w => ∃ ι I e h p v, ch = [{ v := v, recovered := false }] ∧ At N pin c e h a w ι I ∧ rel w I p v ∧ Q (.pan p) e h
  | _, _, _ => False
def SemC (P : Program) (N pin : Nat) (c : Code) (Q : AQ) (e : AEnv) (h : AHeap) : Prop :=
  ∀ cx a w ι I, At N pin cx e h a w ι I → c.wp P (QR N pin cx Q) a w
def SemL (P : Program) (N pin : Nat) (all : Array Oper) (l : List Oper) (Q : AQ) (e : AEnv) (h : AHeap) : Prop :=
  ∀ cx a w ι I, At N pin cx e h a w ι I → wpList P all (QR N pin cx Q) l a w
inductive It where
  | code (c : Code)
  | blk (id : Nat)
  | ops (all : Array Oper) (l : List Oper)
  | back (R : AEnv → AHeap → Prop)
def After (P : Program) (N pin : Nat) (Q : AQ) : List It → AQ
  | [], x, e, h => Q x e h
  | .code c :: k, .norm, e, h => SemC P N pin c (After P N pin Q k) e h
  | .ops all l :: k, .norm, e, h => SemL P N pin all l (After P N pin Q k) e h
  | .blk _ :: k, .norm, e, h => After P N pin Q k .norm e h
  | .back R :: _, .norm, e, h => R e h
  | .blk id :: k, .exit id', e, h => if id' = id then After P N pin Q k .norm e h else After P N pin Q k (.exit id') e h
  | .code _ :: k, x, e, h => After P N pin Q k x e h
  | .ops _ _ :: k, x, e, h => After P N pin Q k x e h
  | .back _ :: k, x, e, h => After P N pin Q k x e h
  | .blk _ :: k, x, e, h => After P N pin Q k x e h
def popTo (id : Nat) : List It → Option (List It)
  | [] => none
  | .blk id' :: k => if id = id' then some k else popTo id k
  | .code _ :: k => popTo id k
  | .ops _ _ :: k => popTo id k
  | .back _ :: k => popTo id k
section
variable {P : Program} {N pin : Nat} {Q : AQ}
theorem After_ret : ∀ (k : List It) (e : AEnv) (h : AHeap), After P N pin Q k .ret e h = Q .ret e h
  | [], e, h => by simp [After]
  | .code c :: k, e, h => by simp only [After]; exact After_ret k e h
  | .ops _ _ :: k, e, h => by simp only [After]; exact After_ret k e h
  | .back _ :: k, e, h => by simp only [After]; exact After_ret k e h
  | .blk _ :: k, e, h => by simp only [After]; exact After_ret k e h
theorem After_pan (p : PV) : ∀ (k : List It) (e : AEnv) (h : AHeap), After P N pin Q k (.pan p) e h = Q (.pan p) e h
  | [], e, h => by simp [After]
  | .code c :: k, e, h => by simp only [After]; exact After_pan p k e h
  | .ops _ _ :: k, e, h => by simp only [After]; exact After_pan p k e h
  | .back _ :: k, e, h => by simp only [After]; exact After_pan p k e h
  | .blk _ :: k, e, h => by simp only [After]; exact After_pan p k e h
theorem After_exit {id : Nat} : ∀ {k k' : List It} {e : AEnv} {h : AHeap}, popTo id k = some k' → After P N pin Q k' .norm e h → After P N pin Q k (.exit id) e h
  | [], k', e, h, hp, hk => by cases hp
  | .code c :: k, k', e, h, hp, hk => by simp only [After, popTo] at hp ⊢; exact After_exit hp hk
  | .ops _ _ :: k, k', e, h, hp, hk => by simp only [After, popTo] at hp ⊢; exact After_exit hp hk
  | .back _ :: k, k', e, h, hp, hk => by simp only [After, popTo] at hp ⊢; exact After_exit hp hk
  | .blk id' :: k, k', e, h, hp, hk => by
    simp only [After, popTo] at hp ⊢
    by_cases e1 : id = id'
    · rw [if_pos e1] at hp ⊢; cases hp; exact hk
    · rw [if_neg e1] at hp ⊢; exact After_exit hp hk
theorem QR_mono {cx : Cx} {Q Q' : AQ} (hq : ∀ x e h, Q x e h → Q' x e h) : ∀ (x : Exit) (a : Act) (w : World), QR N pin cx Q x a w → QR N pin cx Q' x a w
  | .normal, a, w, ⟨ι, I, e, h, h1, h2⟩ => ⟨ι, I, e, h, h1, hq _ _ _ h2⟩
  | .exit id, a, w, ⟨ι, I, e, h, h1, h2⟩ => ⟨ι, I, e, h, h1, hq _ _ _ h2⟩
  | .ret, a, w, ⟨ι, I, e, h, h1, h2⟩ => ⟨ι, I, e, h, h1, hq _ _ _ h2⟩
  | .panic ch, a, w, ⟨ι, I, e, h, p, v, h0, h1, h2, h3⟩ => ⟨ι, I, e, h, p, v, h0, h1, h2, hq _ _ _ h3⟩
  | .goto _, _, _, h => h.elim
  | .outgrown, _, _, h => h.elim
theorem go_skip {k : List It} {e : AEnv} {h : AHeap} (hk : After P N pin Q k .norm e h) : After P N pin Q (.code .skip :: k) .norm e h := by
  simp only [After]
  exact fun cx a w ι I hA => wp_skip ⟨ι, I, e, h, hA, hk⟩
theorem go_seq {x y : Code} {k : List It} {e : AEnv} {h : AHeap} (hk : After P N pin Q (.code x :: .code y :: k) .norm e h) : After P N pin Q (.code (.seq x y) :: k) .norm e h := by
  simp only [After] at hk ⊢
  intro cx a w ι I hA
  refine wp_seq (Code.wp_mono ?_ (hk cx a w ι I hA))
  intro ex a' w' hq
  cases ex with
  | normal =>
    obtain ⟨ι', I', e', h', h1, h2⟩ := hq
    simp only [After] at h2
    exact h2 cx a' w' ι' I' h1
  | exit id => exact hq
  | ret => exact hq
  | panic ch => exact hq
  | goto l => exact hq
  | outgrown => exact hq
theorem go_cond {c : Operand} {x y : Code} {k : List It} {e : AEnv} {h : AHeap} {b : Bool} (hc : opd e c = .pv (.bool b)) (ht : b = true → After P N pin Q (.code x :: k) .norm e h) (hf : b = false → After P N pin Q (.code y :: k) .norm e h) :
    After P N pin Q (.code (.cond c x y) :: k) .norm e h := by
  simp only [After] at ht hf ⊢
  intro cx a w ι I hA
  have hv := (opd_rel hA.env c).1
  rw [hc] at hv
  simp only [arel, rel] at hv
  exact wp_cond_split hv (fun hb => ht hb cx a w ι I hA) (fun hb => hf hb cx a w ι I hA)
theorem go_block {id : Nat} {c : Code} {k : List It} {e : AEnv} {h : AHeap} (hk : After P N pin Q (.code c :: .blk id :: k) .norm e h) : After P N pin Q (.code (.block id c) :: k) .norm e h := by
  simp only [After] at hk ⊢
  intro cx a w ι I hA
  refine wp_block (Code.wp_mono ?_ (hk cx a w ι I hA))
  intro ex a' w' hq
  cases ex with
  | normal => exact hq
  | exit id' =>
    simp only [Exit.inBlock]
    obtain ⟨ι', I', e', h', h1, h2⟩ := hq
    simp only [After] at h2
    by_cases e1 : id' = id
    · rw [if_pos e1] at h2 ⊢; exact ⟨ι', I', e', h', h1, h2⟩
    · rw [if_neg e1] at h2 ⊢; exact ⟨ι', I', e', h', h1, h2⟩
  | ret => exact hq
  | panic ch => exact hq
  | goto l => exact hq
  | outgrown => exact hq
theorem go_exit {id : Nat} {k k' : List It} {e : AEnv} {h : AHeap} (hp : popTo id k = some k') (hk : After P N pin Q k' .norm e h) : After P N pin Q (.code (.exit id) :: k) .norm e h := by
  simp only [After]
  exact fun cx a w ι I hA => wp_exit ⟨ι, I, e, h, hA, After_exit hp hk⟩
theorem go_ret {k : List It} {e : AEnv} {h : AHeap} (hq : Q .ret e h) : After P N pin Q (.code .ret :: k) .norm e h := by
  simp only [After]
  exact fun cx a w ι I hA => wp_ret ⟨ι, I, e, h, hA, by rw [After_ret]; exact hq⟩
theorem go_region {id : Nat} {all : Array Oper} {k : List It} {e : AEnv} {h : AHeap} (hk : After P N pin Q (.ops all all.toList :: k) .norm e h) : After P N pin Q (.code (.region id all false) :: k) .norm e h := by
  simp only [After] at hk ⊢
  exact fun cx a w ι I hA => wp_region_list (hk cx a w ι I hA)
theorem go_opsN {all : Array Oper} {k : List It} {e : AEnv} {h : AHeap} (hk : After P N pin Q k .norm e h) : After P N pin Q (.ops all [] :: k) .norm e h := by
  simp only [After]
  exact fun cx a w ι I hA => wpList_nil ⟨ι, I, e, h, hA, hk⟩
end

/-! ### 19. One operation of a list -/
def putO (e : AEnv) : Option Tmp → AV → AEnv
  | some d, v => e.put d v
  | none, _ => e
def dstOk (N : Nat) : Option Tmp → Bool
  | some d => Nat.blt d N
  | none => true
def yld (all : Array Oper) (e : AEnv) (j : Nat) : AV := match all[j]? with
  | some o => match o.dst with
    | some t => e t
    | none => .undef
  | none => .undef
def opA (P : Program) (e : AEnv) (h : AHeap) : Op → Option (AV × AHeap)
  | .store t x y => match stR P t (opd e x) (opd e y) h with
    | some h' => some (.undef, h')
    | none => none
  | .mapUpdate t m k x => match muR P t (opd e m) (opd e k) (opd e x) h with
    | some h' => some (.undef, h')
    | none => none
  | o => sop P e h o
def kind : Op → Nat
  | .move _ | .assign _ | .pick _ _ _ | .alloc _ | .box _ _ | .build _ _ | .buildSlice _ _ _ | .load _ _ | .nilCheck _ | .binOp _ _ _ _ _ | .unOp _ _ _ | .convert _ _ _
  | .makeInterface _ _ | .makeFunc _ _ _ | .fieldAddr _ _ _ | .indexAddr _ _ _ | .index _ _ _ | .slice _ _ _ _ _ | .extract _ _ | .store _ _ _ | .makeMap _ _ | .lookup _ _ _ _ | .mapUpdate _ _ _ _ => 0
  | .call ⟨.builtin .len, _, _⟩ | .call ⟨.builtin .clear, _, _⟩ | .call ⟨.builtin .append, _, _⟩ | .call ⟨.builtin .min, _, _⟩ | .call ⟨.builtin .max, _, _⟩ => 0
  | .call ⟨.value _, _, _⟩ => 1
  | _ => 2
def fnOf : AV → Option (FuncId × List AV)
  | .pv (.fn f) => some (f, [])
  | .fn f caps => some (f, caps)
  | _ => none
section
variable {P : Program} {N pin : Nat}
theorem At.put {c : Cx} {e : AEnv} {h h' : AHeap} {a : Act} {w w' : World} {ι ι' : Nat → Nat × Nat} {I I' : Nat → Prop} (hA : At N pin c e h a w ι I) (hI : Inv c.G ι' I' h' w') (hE : Ext I I' ι ι' h.length w w') (hl : h.length ≤ h'.length)
    {dst : Option Tmp} (hd : dstOk N dst = true) {v : AV} {u : Value} (hv : arel w' I' ι' v u) (hvl : v.lt h'.length) : At N pin c (putO e dst v) h' (a.put dst u) w' ι' I' := by
  have hE' := hA.env.ext hE hl
  refine ⟨hI, ?_, hA.ext.trans hE hA.pin, Nat.le_trans hA.pin hl, by cases dst <;> simpa [Act.put] using hA.dfr⟩
  cases dst with
  | none => exact hE'
  | some d =>
    simp only [dstOk] at hd
    exact hE'.put (by simpa using hd) hv hvl
theorem ERel.yld {n : Nat} {w : World} {I : Nat → Prop} {ι : Nat → Nat × Nat} {e : AEnv} {a : Act} (hE : ERel N n w I ι e a) {all : Array Oper} {j : Nat} {b : Bool} (hy : yld all e j = .pv (.bool b)) : yielded all a.tmps j = some b := by
  unfold Go.Proofs.YtahamnipffckhaaDoor.yld at hy
  unfold yielded
  split at hy
  · rename_i o ho
    split at hy
    · rename_i t ht
      have hr := hE.rel t
      rw [hy] at hr
      simp only [arel, Go.Proofs.YtahamnipffckhaaDoor.rel] at hr
      have hlt : t < a.tmps.size := by
        rcases Nat.lt_or_ge t a.tmps.size with h1 | h1
        · exact h1
        · have := hE.out t (by rw [← hE.size]; exact h1)
          rw [hy] at this; cases this
      have : a.tmps[t]? = some (.bool b) := by
        simp only [Array.getD_eq_getD_getElem?] at hr
        rw [Array.getElem?_eq_getElem hlt] at hr ⊢
        simpa using hr
      simp [ho, ht, this]
    · cases hy
  · cases hy
theorem arel_skip {w : World} {I : Nat → Prop} {ι : Nat → Nat × Nat} : arel w I ι (.tup []) Go.undef := by simp only [arel, arelL]; exact ⟨[], rfl, rfl⟩
theorem ERel.yldU {n : Nat} {w : World} {I : Nat → Prop} {ι : Nat → Nat × Nat} {e : AEnv} {a : Act} (hE : ERel N n w I ι e a) {all : Array Oper} {j : Nat} (hy : Go.Proofs.YtahamnipffckhaaDoor.yld all e j = .tup []) : yielded all a.tmps j = none := by
  unfold Go.Proofs.YtahamnipffckhaaDoor.yld at hy
  unfold yielded
  split at hy
  · rename_i o ho
    split at hy
    · rename_i t ht
      have hr := hE.rel t
      rw [hy] at hr
      simp only [arel, arelL] at hr
      obtain ⟨vs, hv, rfl⟩ := hr
      simp only [Array.getD_eq_getD_getElem?] at hv
      cases hx : a.tmps[t]? with
      | none => simp [ho, ht, hx]
      | some u =>
        rw [hx] at hv
        simp only [Option.getD_some] at hv
        subst hv
        simp [ho, ht, hx]
    · cases hy
  · cases hy
theorem guard_free (o : Oper) (a : Act) (w : World) (K : Act → World → Prop) (Q : Exit → Act → World → Prop) : ({ o with guard := none } : Oper).wp P a w K Q = o.wp P a w K Q := by
  obtain ⟨dst, op, type, pos, after, guard⟩ := o
  have : execOp a.eval { dst, op, type, pos, after, guard := none } = execOp a.eval { dst, op, type, pos, after, guard } := by cases op <;> rfl
  unfold Oper.wp
  rw [this]
  generalize (execOp a.eval { dst, op, type, pos, after, guard }).run P w = r
  cases r with
  | ok n w' => cases n <;> rfl
  | halt x w' => cases x <;> rfl
theorem go_guard {Q : AQ} {o : Oper} {all : Array Oper} {rest : List Oper} {k : List It} {e : AEnv} {h : AHeap} {j : Nat} {b b' : Bool} (hg : o.guard = some (j, b)) (hd : dstOk N o.dst = true) (hy : yld all e j = .pv (.bool b'))
    (ht : b' = b → After P N pin Q (.ops all ({ o with guard := none } :: rest) :: k) .norm e h) (hf : b' ≠ b → After P N pin Q (.ops all rest :: k) .norm (putO e o.dst (.tup [])) h) :
    After P N pin Q (.ops all (o :: rest) :: k) .norm e h := by
  simp only [After] at ht hf ⊢
  intro cx a w ι I hA
  have hyy := hA.env.yld hy
  by_cases hb : b' = b
  · have h1 := ht hb cx a w ι I hA
    subst hb
    unfold wpList at h1 ⊢
    rw [if_pos (by simp [Region.wanted])] at h1
    rw [if_pos (by simp [Region.wanted, hg, hyy])]
    rcases h1 with h1 | ⟨_, a', w', h1⟩
    · exact .inl (by rw [guard_free] at h1; exact h1)
    · exact h1.elim
  · have h1 := hf hb cx (a.put o.dst Go.undef) w ι I (hA.put hA.inv (Ext.refl _ _ _ _) (Nat.le_refl _) hd arel_skip trivial)
    unfold wpList
    rw [if_neg (by simp [Region.wanted, hg, hyy, hb])]
    exact h1
theorem go_guardU {Q : AQ} {o : Oper} {all : Array Oper} {rest : List Oper} {k : List It} {e : AEnv} {h : AHeap} {j : Nat} {b : Bool} (hg : o.guard = some (j, b)) (hd : dstOk N o.dst = true) (hy : yld all e j = .tup [])
    (hf : After P N pin Q (.ops all rest :: k) .norm (putO e o.dst (.tup [])) h) : After P N pin Q (.ops all (o :: rest) :: k) .norm e h := by
  simp only [After] at hf ⊢
  intro cx a w ι I hA
  have hyy := hA.env.yldU hy
  have h1 := hf cx (a.put o.dst Go.undef) w ι I (hA.put hA.inv (Ext.refl _ _ _ _) (Nat.le_refl _) hd arel_skip trivial)
  unfold wpList
  rw [if_neg (by simp [Region.wanted, hg, hyy])]
  exact h1
theorem go_opA {Q : AQ} {o : Oper} {all : Array Oper} {rest : List Oper} {k : List It} {e : AEnv} {h h' : AHeap} {v : AV} (hg : o.guard = none) (hd : dstOk N o.dst = true) (hs : opA P e h o.op = some (v, h'))
    (hk : After P N pin Q (.ops all rest :: k) .norm (putO e o.dst v) h') : After P N pin Q (.ops all (o :: rest) :: k) .norm e h := by
  simp only [After] at hk ⊢
  intro cx a w ι I hA
  refine wpList_plain hg fun K hK => ?_
  unfold Oper.wp
  have gen : sop P e h o.op = some (v, h') → o.upon P a K (QR N pin cx (After P N pin Q k)) ((execOp a.eval o).run P w) := by
    intro hs
    obtain ⟨r, h1, h2⟩ := sop_sound hA.inv hA.env o hs
    obtain ⟨u, w', ι', I', rfl, k1, k2, k3, k4, k5⟩ := h2
    rw [h1]
    simp only [Result.andThen_ok, Oper.upon_value]
    exact hK _ _ (hk cx _ w' ι' I' (hA.put k1 k2 k3 hd k4 k5))
  unfold opA at hs
  split at hs
  · rename_i t x y hop
    split at hs <;> cases hs
    rename_i h1 hst
    obtain ⟨x1, x2⟩ := opd_rel hA.env x
    obtain ⟨y1, y2⟩ := opd_rel hA.env y
    obtain ⟨w', s1, s2, s3, s4⟩ := stR_sound hA.inv x1 y1 y2 hst
    have hr : (execOp a.eval o).run P w = .ok .skip w' := by
      obtain ⟨dst, op, type, pos, after, guard⟩ := o
      simp only at hop
      subst hop
      simp [execOp, s1]
    rw [hr, Oper.upon_skip]
    exact hK _ _ (hk cx _ w' ι I (hA.put s2 s3 (by omega) hd trivial trivial))
  · rename_i t m k x hop
    split at hs <;> cases hs
    rename_i h1 hst
    obtain ⟨m1, m2⟩ := opd_rel hA.env m
    obtain ⟨k1, k2⟩ := opd_rel hA.env k
    obtain ⟨x1, x2⟩ := opd_rel hA.env x
    obtain ⟨w', s1, s2, s3, s4⟩ := muR_sound hA.inv m1 k1 x1 x2 hst
    have hr : (execOp a.eval o).run P w = .ok .skip w' := by
      obtain ⟨dst, op, type, pos, after, guard⟩ := o
      simp only at hop
      subst hop
      simp [execOp, s1]
    rw [hr, Oper.upon_skip]
    exact hK _ _ (hk cx _ w' ι I (hA.put s2 s3 (by omega) hd trivial trivial))
  · exact gen hs
theorem go_call {Q : AQ} {o : Oper} {all : Array Oper} {rest : List Oper} {k : List It} {e : AEnv} {h : AHeap} {x : Operand} {args : Array Operand} {argTypes : Array TypeId} {f : FuncId} {caps : List AV} {R : CR → AHeap → Prop}
    (hg : o.guard = none) (hd : dstOk N o.dst = true) (ho : o.op = .call { callee := .value x, args, argTypes }) (hf : fnOf (opd e x) = some (f, caps)) (hc : CallK P f (args.toList.map (opd e) ++ caps) h R)
    (hk : ∀ v h', R (.ret v) h' → After P N pin Q (.ops all rest :: k) .norm (putO e o.dst v) h') (hp : ∀ p h', R (.pan p) h' → Q (.pan p) e h') : After P N pin Q (.ops all (o :: rest) :: k) .norm e h := by
  simp only [After] at hk ⊢
  intro cx a w ι I hA
  refine wpList_plain hg fun K hK => ?_
  unfold Oper.wp
  obtain ⟨x1, x2⟩ := opd_rel hA.env x
  obtain ⟨o1, o2⟩ := opd_list hA.env args.toList
  have hcall : ∃ vs, (execOp a.eval o).run P w = .ok (.enter f vs.toArray) w ∧ arelL w I ι (args.toList.map (opd e) ++ caps) vs ∧ AV.ltL h.length (args.toList.map (opd e) ++ caps) := by
    obtain ⟨dst, op, type, pos, after, guard⟩ := o
    simp only at ho
    subst ho
    have ha : args.map a.eval = (args.toList.map a.eval).toArray := by rw [← Array.toList_inj]; simp
    unfold fnOf at hf
    split at hf <;> cases hf
    · rename_i hx
      rw [hx] at x1
      simp only [arel, rel] at x1
      refine ⟨args.toList.map a.eval, ?_, by simpa using o1, by simpa using o2⟩
      simp only [execOp, resolve, Sem.run_bind, Sem.run_pure, Result.andThen_ok, x1, Deferred.ofValue, invoke, ha]
      simpa using hc.1 _ w
    · rename_i hx
      rw [hx] at x1 x2
      simp only [arel, AV.lt] at x1 x2
      obtain ⟨vs, e1, e2⟩ := x1
      refine ⟨args.toList.map a.eval ++ vs, ?_, arelL_append o1 e2, ?_⟩
      · simp only [execOp, resolve, Sem.run_bind, Sem.run_pure, Result.andThen_ok, e1, Deferred.ofValue, invoke, ha]
        simpa using hc.1 _ w
      · rw [AV.ltL_iff] at o2 x2 ⊢
        intro c hc
        rcases List.mem_append.1 hc with h1 | h1
        · exact o2 c h1
        · exact x2 c h1
  obtain ⟨vs, e1, e2, e3⟩ := hcall
  rw [e1, Oper.upon_enter]
  refine (hc.2 cx.G ι I w vs hA.inv e2 e3).mono ?_
  intro en w' hq
  cases en with
  | returned u =>
    obtain ⟨ι', I', r, h', k1, k2, k3, k4, k5, k6⟩ := hq
    exact hK _ _ (hk r h' k6 cx _ w' ι' I' (hA.put k1 k2 k3 hd k4 k5))
  | panicked ch =>
    obtain ⟨ι', I', p, v, h', k0, k1, k2, k3, k4, k5⟩ := hq
    exact ⟨ι', I', e, h', p, v, k0, ⟨k1, hA.env.ext k2 k3, hA.ext.trans k2 hA.pin, Nat.le_trans hA.pin k3, hA.dfr⟩, k4, by rw [After_pan]; exact hp p h' k5⟩
  | outgrown => exact hq.elim
end
end Go.Proofs.YtahamnipffckhaaDoor
