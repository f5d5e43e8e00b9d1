import Derived.Test.YtahamnipffckhaaDoorAm7b
set_option linter.unusedVariables false
set_option linter.unusedSimpArgs false
namespace Go.Proofs.YtahamnipffckhaaDoor
open Go Go.RowKit

/-! ### 15. Operations on single values -/
def sval : PV → Option Value
  | .int k n => some (.int k n)
  | .bool b => some (.bool b)
  | .str s => some (.string s)
  | _ => none
def semPure : Sem Value → Option Value
  | .pure v => some v
  | _ => none
def ptrT (P : Program) (t : TypeId) : Bool := match P.underlying t with
  | some (.pointer _) => true
  | _ => false
def boolT (P : Program) (t : TypeId) : Bool := match P.underlying t with
  | some .bool => true
  | _ => false
def binS (op : BinOp) (t : TypeId) (x y : PV) : Option AV := match sval x, sval y with
  | some a, some b => match semPure (binOp op t a b) with
    | some v => cst0 v
    | none => none
  | _, _ => none
def isPtr : AV → Bool
  | .ptr _ _ | .eptr _ _ _ _ | .iptr _ => true
  | _ => false
def binR (P : Program) (op : BinOp) (t : TypeId) (x y : AV) : Option AV := match op, x, y with
  | .eql, .pv (.bool a), .pv (.bool b) => if boolT P t = true then some (.pv (.bool (a == b))) else none
  | .neq, .pv (.bool a), .pv (.bool b) => if boolT P t = true then some (.pv (.bool (!(a == b)))) else none
  | .eql, x, .pv .nilp => if ptrT P t = true then (if isPtr x = true then some (.pv (.bool false)) else match x with
    | .pv .nilp => some (.pv (.bool true))
    | _ => none) else none
  | .neq, x, .pv .nilp => if ptrT P t = true then (if isPtr x = true then some (.pv (.bool true)) else match x with
    | .pv .nilp => some (.pv (.bool false))
    | _ => none) else none
  | op, .pv p, .pv q => binS op t p q
  | _, _, _ => none
def unR (op : UnOp) (x : AV) : Option AV := match x with
  | .pv p => match sval p with
    | some a => match semPure (Op.unary op a) with
      | some v => cst0 v
      | none => none
    | none => none
  | _ => none
def intT (P : Program) (t : TypeId) : Option IntKind := match P.underlying t with
  | some (.int k) => some k
  | _ => none
def cvR (P : Program) (src dst : TypeId) (x : AV) : Option AV := match intT P src, intT P dst, x with
  | some _, some k, .pv (.int _ n) => some (.pv (.int k (k.wrap n)))
  | _, _, _ => none
def ifcT (P : Program) (t : TypeId) : Bool := match P.underlying t with
  | some (.interface _) => false
  | some _ => true
  | none => false
def mkI (P : Program) (t : TypeId) (x : AV) : Option AV := match x with
  | .pv p => if ifcT P t = true then some (.pv (.ifc t p)) else none
  | _ => none
def ncR (x : AV) : Option AV := if isPtr x = true then some x else match x with
  | .fn f c => some (.fn f c)
  | .pv (.fn f) => some (.pv (.fn f))
  | _ => none
def mfR (f : Fn) (caps : List AV) : Option AV := match f, caps with
  | .func g, [] => some (.pv (.fn g))
  | .func g, c :: cs => some (.fn g (c :: cs))
  | _, _ => none
def exR (i : Nat) (x : AV) : Option AV := match x with
  | .tup vs => vs[i]?
  | .pv (.tup ps) => match ps[i]? with
    | some p => some (.pv p)
    | none => none
  | _ => none
def mnL : AV → List AV → Option AV
  | x, [] => some x
  | .pv (.int k a), .pv (.int _ b) :: r => mnL (.pv (.int k (if b < a then b else a))) r
  | _, _ => none
def mxL : AV → List AV → Option AV
  | x, [] => some x
  | .pv (.int k a), .pv (.int _ b) :: r => mxL (.pv (.int k (if b > a then b else a))) r
  | _, _ => none
section
variable {P : Program} {G : Ghost} {ι : Nat → Nat × Nat} {I : Nat → Prop} {h : AHeap} {w : World}
theorem semPure_run {s : Sem Value} {v : Value} (hs : semPure s = some v) : s.run P w = .ok v w := by
  cases s <;> simp [semPure] at hs
  subst hs; rfl
theorem sval_rel {p : PV} {v a : Value} (hp : rel w I p v) (hs : sval p = some a) : v = a := by
  cases p <;> simp [sval] at hs <;> simp only [rel] at hp <;> simp_all
theorem isPtr_val {x : AV} {v : Value} (hx : arel w I ι x v) (hp : isPtr x = true) : ∃ a, v = .pointer (some a) := by
  cases x <;> simp [isPtr] at hp <;> simp only [arel] at hx
  · exact ⟨_, hx⟩
  · exact ⟨_, hx⟩
  · obtain ⟨b, o, e, _⟩ := hx; exact ⟨_, e⟩
theorem run_eq_bool {t : TypeId} (hu : P.underlying t = some .bool) (a b : Bool) : (Op.equal t (.bool a) (.bool b)).run P w = .ok (a == b) w := by
  have key : ∀ d : Nat, (Op.equalIn (d + 1) t (.bool a) (.bool b)).run P w = .ok (a == b) w := fun d => by simp [Op.equalIn, run_underlying hu]
  exact key 9999
theorem run_eq_nil {t e : TypeId} (hu : P.underlying t = some (.pointer e)) (a : Option Addr) : (Op.equal t (.pointer a) (.pointer none)).run P w = .ok a.isNone w := by
  have key : ∀ d : Nat, (Op.equalIn (d + 1) t (.pointer a) (.pointer none)).run P w = .ok a.isNone w := fun d => by cases a <;> simp [Op.equalIn, run_underlying hu]
  exact key 9999
theorem binS_sound {op : BinOp} {t : TypeId} {x y : PV} {v u : Value} {r : AV} {X Y : Operand} (hx : rel w I x v) (hy : rel w I y u) (hf : binS op t x y = some r) :
    ∃ z, (do eqGuard op t X Y v u; binOp op t v u : Sem Value).run P w = .ok z w ∧ arel w I ι r z ∧ r.lt h.length := by
  unfold binS at hf
  split at hf
  case h_2 => cases hf
  rename_i a b ha hb
  obtain rfl := sval_rel hx ha
  obtain rfl := sval_rel hy hb
  split at hf
  case h_2 => cases hf
  rename_i z hz
  have hg : (eqGuard op t X Y v u).run P w = .ok () w := by
    cases x <;> simp [sval] at ha <;> cases y <;> simp [sval] at hb <;> subst ha <;> subst hb <;> cases op <;> simp [eqGuard]
  obtain ⟨h1, h2, _⟩ := cst0_rel (w := w) (I := I) (ι := ι) (n := h.length) hf
  exact ⟨z, by simp [hg, semPure_run (w := w) (P := P) hz], h1, h2⟩
theorem binR_sound {op : BinOp} {t : TypeId} {x y r : AV} {v u : Value} {X Y : Operand} (hx : arel w I ι x v) (hy : arel w I ι y u) (hf : binR P op t x y = some r) :
    ∃ z, (do eqGuard op t X Y v u; binOp op t v u : Sem Value).run P w = .ok z w ∧ arel w I ι r z ∧ r.lt h.length := by
  unfold binR at hf
  split at hf
  · simp only [arel, rel] at hx hy
    subst hx; subst hy
    split at hf <;> cases hf
    rename_i a b hb
    unfold boolT at hb
    split at hb
    · rename_i hu
      exact ⟨.bool (a == b), by simp [eqGuard, binOp, run_eq_bool hu], by simp [arel, rel], trivial⟩
    · cases hb
  · simp only [arel, rel] at hx hy
    subst hx; subst hy
    split at hf <;> cases hf
    rename_i a b hb
    unfold boolT at hb
    split at hb
    · rename_i hu
      exact ⟨.bool (!(a == b)), by simp [eqGuard, binOp, run_eq_bool hu], by simp [arel, rel], trivial⟩
    · cases hb
  · simp only [arel, rel] at hy
    subst hy
    split at hf
    case isFalse => cases hf
    rename_i hb
    unfold ptrT at hb
    split at hb
    case h_2 => cases hb
    rename_i e hu
    split at hf
    · rename_i hp
      cases hf
      obtain ⟨a, rfl⟩ := isPtr_val hx hp
      exact ⟨.bool false, by simp [eqGuard, binOp, run_eq_nil hu], by simp [arel, rel], trivial⟩
    · split at hf <;> cases hf
      simp only [arel, rel] at hx
      subst hx
      exact ⟨.bool true, by simp [eqGuard, binOp, run_eq_nil hu], by simp [arel, rel], trivial⟩
  · simp only [arel, rel] at hy
    subst hy
    split at hf
    case isFalse => cases hf
    rename_i hb
    unfold ptrT at hb
    split at hb
    case h_2 => cases hb
    rename_i e hu
    split at hf
    · rename_i hp
      cases hf
      obtain ⟨a, rfl⟩ := isPtr_val hx hp
      exact ⟨.bool true, by simp [eqGuard, binOp, run_eq_nil hu], by simp [arel, rel], trivial⟩
    · split at hf <;> cases hf
      simp only [arel, rel] at hx
      subst hx
      exact ⟨.bool false, by simp [eqGuard, binOp, run_eq_nil hu], by simp [arel, rel], trivial⟩
  · simp only [arel] at hx hy
    exact binS_sound hx hy hf
  · cases hf
theorem unR_sound {op : UnOp} {x r : AV} {v : Value} (hx : arel w I ι x v) (hf : unR op x = some r) : ∃ z, (Op.unary op v).run P w = .ok z w ∧ arel w I ι r z ∧ r.lt h.length := by
  unfold unR at hf
  split at hf
  · rename_i p
    simp only [arel] at hx
    split at hf
    · rename_i a ha
      obtain rfl := sval_rel hx ha
      split at hf
      · rename_i z hz
        obtain ⟨h1, h2, _⟩ := cst0_rel (w := w) (I := I) (ι := ι) (n := h.length) hf
        exact ⟨z, semPure_run hz, h1, h2⟩
      · cases hf
    · cases hf
  · cases hf
theorem intT_spec {t : TypeId} {k : IntKind} (hk : intT P t = some k) : P.underlying t = some (.int k) := by
  unfold intT at hk
  split at hk <;> cases hk
  assumption
theorem cvR_sound {src dst : TypeId} {x r : AV} {v : Value} (hx : arel w I ι x v) (hf : cvR P src dst x = some r) : ∃ z, (convert src dst v).run P w = .ok z w ∧ arel w I ι r z ∧ r.lt h.length := by
  unfold cvR at hf
  split at hf
  · rename_i hs hd
    cases hf
    simp only [arel, rel] at hx
    subst hx
    exact ⟨_, by simp only [convert, Sem.run_bind, run_underlying (intT_spec hs), run_underlying (intT_spec hd), Result.andThen_ok, Conv.intToInt]; rfl, by simp [arel, rel], trivial⟩
  · cases hf
theorem mkI_sound {t : TypeId} {x r : AV} {v : Value} (hx : arel w I ι x v) (hf : mkI P t x = some r) : ∃ z, (Instr.makeInterface t v).run P w = .ok z w ∧ arel w I ι r z ∧ r.lt h.length := by
  unfold mkI at hf
  split at hf
  · rename_i p
    split at hf <;> cases hf
    rename_i hc
    simp only [arel] at hx
    unfold ifcT at hc
    split at hc
    · cases hc
    · rename_i d hne hu
      refine ⟨.iface t v, ?_, by simp only [arel, rel]; exact ⟨v, rfl, hx⟩, trivial⟩
      simp only [Instr.makeInterface, Sem.run_bind, run_underlying hu, Result.andThen_ok]
      rfl
    · cases hc
  · cases hf
theorem mnL_sound : ∀ {ys : List AV} {x r : AV} {v : Value} {us : List Value}, arel w I ι x v → arelL w I ι ys us → x.lt h.length → mnL x ys = some r → ∃ z, (us.foldlM Builtin.min2 v).run P w = .ok z w ∧ arel w I ι r z ∧ r.lt h.length
  | [], x, r, v, us, hx, hy, hl, hf => by
    simp only [mnL] at hf; cases hf
    simp only [arelL] at hy; subst hy
    exact ⟨v, by simp, hx, hl⟩
  | y :: ys, x, r, v, us, hx, hy, hl, hf => by
    simp only [arelL] at hy
    obtain ⟨u, us', rfl, y1, y2⟩ := hy
    unfold mnL at hf
    split at hf
    · rename_i e; cases e
    · rename_i k a k' b r' e1
      cases e1
      simp only [arel, rel] at hx y1
      subst hx; subst y1
      obtain ⟨z, z1, z2, z3⟩ := mnL_sound (v := .int k (if b < a then b else a)) (x := .pv (.int k (if b < a then b else a))) (by simp [arel, rel]) y2 trivial hf
      exact ⟨z, by simp only [List.foldlM_cons, Builtin.min2, Sem.run_bind, Sem.run_pure, Result.andThen_ok]; exact z1, z2, z3⟩
    · cases hf
theorem mxL_sound : ∀ {ys : List AV} {x r : AV} {v : Value} {us : List Value}, arel w I ι x v → arelL w I ι ys us → x.lt h.length → mxL x ys = some r → ∃ z, (us.foldlM Builtin.max2 v).run P w = .ok z w ∧ arel w I ι r z ∧ r.lt h.length
  | [], x, r, v, us, hx, hy, hl, hf => by
    simp only [mxL] at hf; cases hf
    simp only [arelL] at hy; subst hy
    exact ⟨v, by simp, hx, hl⟩
  | y :: ys, x, r, v, us, hx, hy, hl, hf => by
    simp only [arelL] at hy
    obtain ⟨u, us', rfl, y1, y2⟩ := hy
    unfold mxL at hf
    split at hf
    · rename_i e; cases e
    · rename_i k a k' b r' e1
      cases e1
      simp only [arel, rel] at hx y1
      subst hx; subst y1
      obtain ⟨z, z1, z2, z3⟩ := mxL_sound (v := .int k (if b > a then b else a)) (x := .pv (.int k (if b > a then b else a))) (by simp [arel, rel]) y2 trivial hf
      exact ⟨z, by simp only [List.foldlM_cons, Builtin.max2, Sem.run_bind, Sem.run_pure, Result.andThen_ok]; exact z1, z2, z3⟩
    · cases hf
end

/-! ### 16. One operation -/
def ret1 (o : Option AV) (h : AHeap) : Option (AV × AHeap) := match o with
  | some v => some (v, h)
  | none => none
def sop (P : Program) (e : AEnv) (h : AHeap) : Op → Option (AV × AHeap)
  | .move x | .assign x => some (opd e x, h)
  | .pick c a b => match opd e c with
    | .pv (.bool t) => some (if t = true then opd e a else opd e b, h)
    | _ => none
  | .alloc t => match zeroT P t with
    | some cs => some (.ptr h.length 0, h ++ [.box cs])
    | none => none
  | .box t x => match bxR (opd e x) h with
    | some h' => some (.ptr h.length 0, h')
    | none => none
  | .build t ps => ret1 (bR P t (ps.toList.map fun p => (p.1, opd e p.2))) h
  | .buildSlice t n ps => bslR P t n (ps.toList.map fun p => (p.1, opd e p.2)) h
  | .load t x => ret1 (ldR P t (opd e x) h) h
  | .nilCheck x => ret1 (ncR (opd e x)) h
  | .binOp op t x y _ => ret1 (binR P op t (opd e x) (opd e y)) h
  | .unOp op _ x => ret1 (unR op (opd e x)) h
  | .convert s d x => ret1 (cvR P s d (opd e x)) h
  | .makeInterface t x => ret1 (mkI P t (opd e x)) h
  | .makeFunc f fs cs => if fs.size = 0 then ret1 (mfR f (cs.toList.map (opd e))) h else none
  | .fieldAddr s x f => ret1 (faR P s f (opd e x)) h
  | .indexAddr t x i => ret1 (iaR P t (opd e x) (opd e i)) h
  | .index t x i => ret1 (ixR P t (opd e x) (opd e i)) h
  | .slice t x lo hi none => ret1 (scR P t (opd e x) (lo.map (opd e)) (hi.map (opd e))) h
  | .extract x i => ret1 (exR i (opd e x)) h
  | .makeMap t r => mmR P t (r.map (opd e)) h
  | .lookup t m k ok => ret1 (lkR P t (opd e m) (opd e k) ok h) h
  | .call c => match c.callee, c.args.toList, c.argTypes.toList with
    | .builtin .len, [x], [t] => ret1 (lnR P t (opd e x)) h
    | .builtin .append, [x, y], [t, t'] => if t = t' then apR P t (opd e x) (opd e y) h else none
    | .builtin .clear, [x], [t] => clR P t (opd e x) h
    | .builtin .min, x :: xs, _ => ret1 (mnL (opd e x) (xs.map (opd e))) h
    | .builtin .max, x :: xs, _ => ret1 (mxL (opd e x) (xs.map (opd e))) h
    | _, _, _ => none
  | _ => none
section
variable {P : Program} {G : Ghost} {ι : Nat → Nat × Nat} {I : Nat → Prop} {h : AHeap} {w : World}
theorem opd_list {N : Nat} {e : AEnv} {a : Act} (hE : ERel N h.length w I ι e a) : ∀ (xs : List Operand), arelL w I ι (xs.map (opd e)) (xs.map a.eval) ∧ AV.ltL h.length (xs.map (opd e))
  | [] => by simp [arelL, AV.ltL]
  | x :: xs => by
    obtain ⟨h1, h2⟩ := opd_list hE xs
    obtain ⟨h3, h4⟩ := opd_rel hE x
    simp only [List.map_cons, arelL, AV.ltL]
    exact ⟨⟨_, _, rfl, h3, h1⟩, h4, h2⟩
theorem Post1.of_ret {N : Nat} (hI : Inv G ι I h w) {o : Option AV} {v : AV} {h' : AHeap} {s : Sem Value} (hr : ret1 o h = some (v, h')) (hs : ∀ y, o = some y → ∃ u, s.run P w = .ok u w ∧ arel w I ι y u ∧ y.lt h.length) :
    Post1 G ι I h w v h' (s.run P w) := by
  unfold ret1 at hr
  split at hr <;> cases hr
  obtain ⟨u, h1, h2, h3⟩ := hs _ rfl
  rw [h1]
  exact Post1.same hI h2 h3
theorem sop_sound {N : Nat} {e : AEnv} {a : Act} (hI : Inv G ι I h w) (hE : ERel N h.length w I ι e a) (o : Oper) {v : AV} {h' : AHeap} (hs : sop P e h o.op = some (v, h')) :
    ∃ r : Result Value, (execOp a.eval o).run P w = r.andThen (fun u w' => .ok (.value u) w') ∧ Post1 G ι I h w v h' r := by
  obtain ⟨dst, op, type, pos, after, guard⟩ := o
  have vv : ∀ {s : Sem Value}, (do pure (Next.value (← s)) : Sem Next).run P w = (s.run P w).andThen (fun u w' => .ok (.value u) w') := fun {s} => by simp
  cases op <;> simp only [sop] at hs <;> try (cases hs; done)
  case move x => cases hs; obtain ⟨h1, h2⟩ := opd_rel hE x; exact ⟨.ok (a.eval x) w, by simp [execOp], Post1.same hI h1 h2⟩
  case assign x => cases hs; obtain ⟨h1, h2⟩ := opd_rel hE x; exact ⟨.ok (a.eval x) w, by simp [execOp], Post1.same hI h1 h2⟩
  case pick c x y =>
    split at hs <;> cases hs
    rename_i t ht
    obtain ⟨h1, h2⟩ := opd_rel hE c
    rw [ht] at h1
    simp only [arel, rel] at h1
    obtain ⟨h3, h4⟩ := opd_rel hE x
    obtain ⟨h5, h6⟩ := opd_rel hE y
    refine ⟨.ok (if t then a.eval x else a.eval y) w, by simp [execOp, h1, asBool], Post1.same hI ?_ ?_⟩ <;> cases t <;> simpa
  case alloc t =>
    split at hs <;> cases hs
    rename_i cs hz
    exact ⟨_, by simp only [execOp]; exact vv, alloc_sound hI hz⟩
  case box t x =>
    split at hs <;> cases hs
    rename_i hb
    obtain ⟨h1, h2⟩ := opd_rel hE x
    exact ⟨_, by simp only [execOp]; exact vv, box_sound hI h1 h2 hb⟩
  case build t ps =>
    have hl := opd_list hE (ps.toList.map (·.2))
    refine ⟨_, by simp only [execOp]; exact vv, Post1.of_ret (N := N) hI hs fun y hy => ?_⟩
    refine bR_sound (parts := ps.toList.map fun p => (p.1, opd e p.2)) (fun i => ?_) ?_ ?_ hy
    · simp only [List.getElem?_map, Array.toList_map, Option.map_map]; rfl
    · simpa [List.map_map, Function.comp_def] using hl.1
    · simpa [List.map_map, Function.comp_def] using hl.2
  case buildSlice t n ps =>
    have hl := opd_list hE (ps.toList.map (·.2))
    refine ⟨_, by simp only [execOp]; exact vv, bslR_sound hI (parts := ps.toList.map fun p => (p.1, opd e p.2)) ?_ ?_ ?_ hs⟩
    · simp [List.map_map, Function.comp_def]
    · simpa [List.map_map, Function.comp_def] using hl.1
    · simpa [List.map_map, Function.comp_def] using hl.2
  case load t x =>
    obtain ⟨h1, h2⟩ := opd_rel hE x
    exact ⟨_, by simp only [execOp]; exact vv, Post1.of_ret (N := N) hI hs fun y hy => ldR_sound hI h1 hy⟩
  case nilCheck x =>
    obtain ⟨h1, h2⟩ := opd_rel hE x
    unfold ret1 at hs
    split at hs <;> cases hs
    rename_i hn
    unfold ncR at hn
    split at hn
    · rename_i hp
      cases hn
      obtain ⟨ad, hv⟩ := isPtr_val h1 hp
      exact ⟨.ok (a.eval x) w, by simp [execOp, hv], Post1.same hI h1 h2⟩
    · split at hn <;> cases hn
      · rename_i f c hx
        rw [hx] at h1 h2
        have h1' := h1
        simp only [arel] at h1
        obtain ⟨vs, hv, _⟩ := h1
        exact ⟨.ok (a.eval x) w, by simp [execOp, hv], Post1.same hI h1' h2⟩
      · rename_i f hx
        rw [hx] at h1 h2
        have h1' := h1
        simp only [arel, rel] at h1
        exact ⟨.ok (a.eval x) w, by simp [execOp, h1], Post1.same hI h1' h2⟩
  case binOp op t x y t' =>
    obtain ⟨h1, h2⟩ := opd_rel hE x
    obtain ⟨h3, h4⟩ := opd_rel hE y
    exact ⟨_, by simp only [execOp]; exact vv, Post1.of_ret (N := N) hI hs fun z hz => binR_sound h1 h3 hz⟩
  case unOp op t x =>
    obtain ⟨h1, h2⟩ := opd_rel hE x
    exact ⟨_, by simp only [execOp]; exact vv, Post1.of_ret (N := N) hI hs fun z hz => unR_sound h1 hz⟩
  case convert s d x =>
    obtain ⟨h1, h2⟩ := opd_rel hE x
    exact ⟨_, by simp only [execOp]; exact vv, Post1.of_ret (N := N) hI hs fun z hz => cvR_sound h1 hz⟩
  case makeInterface t x =>
    obtain ⟨h1, h2⟩ := opd_rel hE x
    exact ⟨_, by simp only [execOp]; exact vv, Post1.of_ret (N := N) hI hs fun z hz => mkI_sound h1 hz⟩
  case makeFunc f fs cs =>
    split at hs
    case isFalse => cases hs
    rename_i hf0
    have hfs : fs = #[] := Array.eq_empty_of_size_eq_zero hf0
    subst hfs
    have hl := opd_list hE cs.toList
    refine ⟨_, by simp only [execOp]; exact vv, Post1.of_ret (N := N) hI hs fun z hz => ?_⟩
    refine ⟨.func f #[] (cs.map a.eval), by simp [Instr.makeFunc], ?_⟩
    unfold mfR at hz
    split at hz <;> cases hz
    · rename_i g hc
      have : cs = #[] := by simpa using hc
      subst this
      exact ⟨by simp [arel, rel], trivial⟩
    · rename_i g c cs' hc
      rw [hc] at hl
      refine ⟨?_, hl.2⟩
      simp only [arel]
      exact ⟨cs.toList.map a.eval, by rw [show cs.map a.eval = (cs.toList.map a.eval).toArray by rw [← Array.toList_inj]; simp], hl.1⟩
  case fieldAddr s x f =>
    obtain ⟨h1, h2⟩ := opd_rel hE x
    exact ⟨_, by simp only [execOp]; exact vv, Post1.of_ret (N := N) hI hs fun z hz => faR_sound h1 h2 hz⟩
  case indexAddr t x i =>
    obtain ⟨h1, h2⟩ := opd_rel hE x
    obtain ⟨h3, h4⟩ := opd_rel hE i
    exact ⟨_, by simp only [execOp]; exact vv, Post1.of_ret (N := N) hI hs fun z hz => iaR_sound h1 h3 h2 hz⟩
  case index t x i =>
    obtain ⟨h1, h2⟩ := opd_rel hE x
    obtain ⟨h3, h4⟩ := opd_rel hE i
    exact ⟨_, by simp only [execOp]; exact vv, Post1.of_ret (N := N) hI hs fun z hz => ixR_sound h1 h3 hz⟩
  case slice t x lo hi mx =>
    cases mx with
    | some m => simp only [sop] at hs; cases hs
    | none =>
      simp only [sop] at hs
      obtain ⟨h1, h2⟩ := opd_rel hE x
      have hb : ∀ l : Option Operand, obnd w I ι (l.map (opd e)) (l.map a.eval) := fun l => by
        cases l with
        | none => trivial
        | some y => exact (opd_rel hE y).1
      exact ⟨_, by simp only [execOp]; exact vv, Post1.of_ret (N := N) hI hs fun z hz => scR_sound h1 h2 (hb lo) (hb hi) hz⟩
  case extract x i =>
    obtain ⟨h1, h2⟩ := opd_rel hE x
    refine ⟨_, by simp only [execOp]; exact vv, Post1.of_ret (N := N) hI hs fun z hz => ?_⟩
    unfold exR at hz
    split at hz
    · rename_i vs hx
      rw [hx] at h1 h2
      simp only [arel, AV.lt] at h1 h2
      obtain ⟨us, hv, hr⟩ := h1
      obtain ⟨u, g1, g2⟩ := arelL_get hr hz
      exact ⟨u, by simp [Instr.extract, hv, g1], g2, AV.ltL_iff.1 h2 z (List.mem_of_getElem? hz)⟩
    · rename_i ps hx
      rw [hx] at h1
      simp only [arel, rel] at h1
      obtain ⟨us, hv, hr⟩ := h1
      split at hz <;> cases hz
      rename_i p hp
      obtain ⟨u, g1, g2⟩ := relL_get hr hp
      exact ⟨u, by simp [Instr.extract, hv, g1], by simpa [arel] using g2, trivial⟩
    · cases hz
  case makeMap t r =>
    have hb : obnd w I ι (r.map (opd e)) (r.map a.eval) := by
      cases r with
      | none => trivial
      | some y => exact (opd_rel hE y).1
    exact ⟨_, by simp only [execOp]; exact vv, mmR_sound hI hb hs⟩
  case lookup t m k ok =>
    obtain ⟨h1, h2⟩ := opd_rel hE m
    obtain ⟨h3, h4⟩ := opd_rel hE k
    exact ⟨_, by simp only [execOp]; exact vv, Post1.of_ret (N := N) hI hs fun z hz => lkR_sound hI h1 h3 hz⟩
  case call c =>
    obtain ⟨callee, args, argTypes⟩ := c
    have nxt : ∀ {s : Sem Value} (b : Builtin), (∀ consts, builtin b argTypes type consts (args.map a.eval) = (do pure (Next.value (← s)) : Sem Next)) → callee = .builtin b →
        (execOp a.eval { dst, op := .call { callee, args, argTypes }, type, pos, after, guard }).run P w = (s.run P w).andThen (fun u w' => .ok (.value u) w') := by
      intro s b hb hc
      subst hc
      simp only [execOp, resolve, Sem.run_bind, Sem.run_pure, Result.andThen_ok, invoke, hb]
    split at hs
    · rename_i x t h1 h2 h3
      simp only at h1 h2 h3
      have ha : args = #[x] := by rw [← Array.toList_inj]; exact h2
      have ht : argTypes = #[t] := by rw [← Array.toList_inj]; exact h3
      subst ha; subst ht
      obtain ⟨o1, o2⟩ := opd_rel hE x
      refine ⟨_, nxt (s := Builtin.len_ #[t] type #[a.eval x]) .len (fun _ => by simp [builtin]) h1, Post1.of_ret (N := N) hI hs fun z hz => lnR_sound o1 hz⟩
    · rename_i x y t t' h1 h2 h3
      simp only at h1 h2 h3
      split at hs
      case isFalse => cases hs
      rename_i htt
      subst htt
      have ha : args = #[x, y] := by rw [← Array.toList_inj]; exact h2
      have ht : argTypes = #[t, t] := by rw [← Array.toList_inj]; exact h3
      subst ha; subst ht
      obtain ⟨o1, o2⟩ := opd_rel hE x
      obtain ⟨o3, o4⟩ := opd_rel hE y
      exact ⟨_, nxt (s := Builtin.append_ #[t, t] type #[a.eval x, a.eval y]) .append (fun _ => by simp [builtin]) h1, apR_sound hI o1 o3 hs⟩
    · rename_i x t h1 h2 h3
      simp only at h1 h2 h3
      have ha : args = #[x] := by rw [← Array.toList_inj]; exact h2
      have ht : argTypes = #[t] := by rw [← Array.toList_inj]; exact h3
      subst ha; subst ht
      obtain ⟨o1, o2⟩ := opd_rel hE x
      exact ⟨_, nxt (s := Builtin.clear_ #[t] type #[a.eval x]) .clear (fun _ => by simp [builtin]) h1, clR_sound hI o1 hs⟩
    · rename_i x xs h1 h2
      simp only at h1 h2
      have ha : args = (x :: xs).toArray := by rw [← Array.toList_inj]; exact h2
      subst ha
      obtain ⟨o1, o2⟩ := opd_rel hE x
      obtain ⟨o3, o4⟩ := opd_list hE xs
      refine ⟨_, nxt (s := Builtin.min_ argTypes type ((x :: xs).toArray.map a.eval)) .min (fun _ => by simp [builtin]) h1, Post1.of_ret (N := N) hI hs fun z hz => ?_⟩
      obtain ⟨u, u1, u2, u3⟩ := mnL_sound (P := P) (h := h) o1 o3 o2 hz
      exact ⟨u, by simpa [Builtin.min_] using u1, u2, u3⟩
    · rename_i x xs h1 h2
      simp only at h1 h2
      have ha : args = (x :: xs).toArray := by rw [← Array.toList_inj]; exact h2
      subst ha
      obtain ⟨o1, o2⟩ := opd_rel hE x
      obtain ⟨o3, o4⟩ := opd_list hE xs
      refine ⟨_, nxt (s := Builtin.max_ argTypes type ((x :: xs).toArray.map a.eval)) .max (fun _ => by simp [builtin]) h1, Post1.of_ret (N := N) hI hs fun z hz => ?_⟩
      obtain ⟨u, u1, u2, u3⟩ := mxL_sound (P := P) (h := h) o1 o3 o2 hz
      exact ⟨u, by simpa [Builtin.max_] using u1, u2, u3⟩
    · cases hs
end
end Go.Proofs.YtahamnipffckhaaDoor
