import Derived.Test.YtahamnipffckhaaDoorAm12
set_option linter.unusedVariables false
set_option linter.unusedSimpArgs false
namespace Go.Proofs.YtahamnipffckhaaDoor
open Go Go.RowKit

/-! ### 26. A pure function -/
def CR.lt (n : Nat) : CR → Prop
  | .ret v => v.lt n
  | .pan _ => True
section
variable {P : Program} {f : FuncId}
theorem Inv.take {G : Ghost} {ι : Nat → Nat × Nat} {I : Nat → Prop} {h j : AHeap} {w : World} (hI : Inv G ι I (h ++ j) w) (hl : ∀ o ∈ h, o.lt h.length) : Inv G ι I h w := by
  have hin : ∀ {id : Nat} {o : AObj}, h[id]? = some o → (h ++ j)[id]? = some o := fun {id o} ho => by
    rw [List.getElem?_append_left (List.getElem?_eq_some_iff.1 ho).1]; exact ho
  exact ⟨hI.os, hI.tape, hI.output, hI.size, hI.frame, hI.sub, hI.bound, fun id o ho => ⟨hl o (List.mem_of_getElem? ho), (hI.obj id o (hin ho)).2⟩, fun id o ho => hI.own id o (hin ho), fun i k oi ok hi hk => hI.inj i k oi ok (hin hi) (hin hk)⟩
theorem CallK.know {args : List AV} {h : AHeap} {K : CR → AHeap → Prop} (he : Ent P f) (hc : (∀ o ∈ h, o.lt h.length) → CallK P f args h K) : CallK P f args h K :=
  ⟨he, fun G ι I w vs hI hr hl => (hc fun o ho => by
    obtain ⟨id, h1⟩ := List.mem_iff_getElem?.1 ho
    exact (hI.obj id o h1).1).2 G ι I w vs hI hr hl⟩
theorem CallK.drop {args : List AV} {h : AHeap} {K : CR → AHeap → Prop} (hc : CallK P f args h (fun r H => ∃ h1 j, H = h1 ++ j ∧ (∀ o ∈ h1, o.lt h1.length) ∧ r.lt h1.length ∧ h.length ≤ h1.length ∧ K r h1)) : CallK P f args h K := by
  refine ⟨hc.1, fun G ι I w vs hI hr hl => (hc.2 G ι I w vs hI hr hl).mono ?_⟩
  intro en w' hq
  cases en with
  | returned v =>
    obtain ⟨ι', I', r, H, k1, k2, k3, k4, k5, h1, j, rfl, k6, k7, k8, k9⟩ := hq
    exact ⟨ι', I', r, h1, k1.take k6, k2, k8, k4, k7, k9⟩
  | panicked ch =>
    obtain ⟨ι', I', p, v, H, k0, k1, k2, k3, k4, h1, j, rfl, k6, k7, k8, k9⟩ := hq
    exact ⟨ι', I', p, v, h1, k0, k1.take k6, k2, k8, k4, k9⟩
  | outgrown => exact hq.elim
def Pure (P : Program) (f : FuncId) (ps : List PV) (r : PV) : Prop := FnK P f (ps.map .pv) [] 0 (fun x _ => x = .ret (.pv r))
def PureP (P : Program) (f : FuncId) (ps : List PV) (p : PV) : Prop := FnK P f (ps.map .pv) [] 0 (fun x _ => x = .pan p)
theorem renL_pv (r : Nat → Nat) : ∀ (ps : List PV), AV.renL r (ps.map .pv) = ps.map .pv
  | [] => rfl
  | p :: ps => by simp only [List.map_cons, AV.renL, AV.ren, renL_pv r ps]
theorem ltL_pv (n : Nat) : ∀ (ps : List PV), AV.ltL n (ps.map .pv)
  | [] => trivial
  | p :: ps => ⟨trivial, ltL_pv n ps⟩
theorem mrg_nil (h h'' : AHeap) : ∃ j, mrg h [] 0 h'' = h ++ j := by
  refine ⟨(h''.drop 0).map (AObj.ren (rho h.length [] 0)), ?_⟩
  unfold mrg
  congr 1
  apply List.ext_getElem?
  intro i
  rw [List.getElem?_mapIdx]
  cases h[i]? <;> rfl
theorem FnK.call0 {ps : List PV} {x : CR} (hx : ∀ n, x.lt n) (hr : ∀ ρ, x.ren ρ = x) (hc : FnK P f (ps.map .pv) [] 0 (fun y _ => y = x)) {h : AHeap} {K : CR → AHeap → Prop} (hk : K x h) : CallK P f (ps.map .pv) h K := by
  refine CallK.know hc.1 fun hl => CallK.drop ?_
  have := FnK.frame hc (h := h) [] (by simp) rfl (Nat.le_refl _) (fun i o ho => by simp at ho) (ltL_pv _ ps) (K := fun r H => ∃ h1 j, H = h1 ++ j ∧ (∀ o ∈ h1, o.lt h1.length) ∧ r.lt h1.length ∧ h.length ≤ h1.length ∧ K r h1) (by
    intro r h'' _ e
    subst e
    obtain ⟨j, hj⟩ := mrg_nil h h''
    rw [hr]
    exact ⟨h, j, hj, hl, hx _, Nat.le_refl _, hk⟩)
  rwa [renL_pv] at this
theorem CallK.frz {args : List AV} {h h1 : AHeap} {ps : List PV} {K : CR → AHeap → Prop} (hf : frzA h args = some (ps, h1)) (hc : CallK P f (ps.map .pv) h1 K) : CallK P f args h K := by
  refine ⟨hc.1, fun G ι I w vs hI hr hl => ?_⟩
  obtain ⟨I', a1, a2, a3, a4⟩ := frzA_sound hI hr hl hf
  refine (hc.2 G ι I' w vs a1 (arelL_map_pv.1 a3) (ltL_pv _ ps)).mono ?_
  intro en w' hq
  cases en with
  | returned v =>
    obtain ⟨ι', I2, r, H, k1, k2, k3, k4, k5, k6⟩ := hq
    exact ⟨ι', I2, r, H, k1, by rw [← a4]; exact (a4 ▸ a2).trans k2 (Nat.le_refl _), by omega, k4, k5, k6⟩
  | panicked ch =>
    obtain ⟨ι', I2, p, v, H, k0, k1, k2, k3, k4, k5⟩ := hq
    exact ⟨ι', I2, p, v, H, k0, k1, by rw [← a4]; exact (a4 ▸ a2).trans k2 (Nat.le_refl _), by omega, k4, k5⟩
  | outgrown => exact hq.elim
theorem Pure.call {ps : List PV} {r : PV} (hp : Pure P f ps r) {args : List AV} {h h1 : AHeap} (hf : frzA h args = some (ps, h1)) {K : Bool → CR → AHeap → Prop} (hk : K true (.ret (.pv r)) h1) : CallZ P f args h K :=
  CallK.frz hf (FnK.call0 (x := .ret (.pv r)) (fun _ => trivial) (fun _ => rfl) hp hk)
theorem PureP.call {ps : List PV} {r : PV} (hp : PureP P f ps r) {args : List AV} {h h1 : AHeap} (hf : frzA h args = some (ps, h1)) {K : Bool → CR → AHeap → Prop} (hk : K true (.pan r) h1) : CallZ P f args h K :=
  CallK.frz hf (FnK.call0 (x := .pan r) (fun _ => trivial) (fun _ => rfl) hp hk)
def frzR (h : AHeap) : CR → Option CR
  | .ret (.tup vs) => match frzA h vs with
    | some (ps, _) => some (.ret (.pv (.tup ps)))
    | none => none
  | .ret v => match frzV h v with
    | some (p, _) => some (.ret (.pv p))
    | none => none
  | .pan p => some (.pan p)
def kR (r : Option CR) (f : CR → Prop) : Prop := ∃ k, r = some k ∧ f k
@[congr] theorem kR_congr {r r' : Option CR} {f : CR → Prop} (h : r = r') : kR r f = kR r' f := by subst h; rfl
@[go_sem] theorem kR_some {k : CR} {f : CR → Prop} : kR (some k) f = f k := by simp [kR]
attribute [go_sem] frzR
theorem FnK.freeze {args : List AV} {h : AHeap} {pin : Nat} {K : CR → Prop} (hc : FnK P f args h pin (fun r h' => kR (frzR h' r) K)) : FnK P f args h pin (fun r _ => K r) := by
  refine ⟨hc.1, fun G ι I w vs hI hr hl => (hc.2 G ι I w vs hI hr hl).mono ?_⟩
  intro en w' hq
  cases en with
  | returned v =>
    obtain ⟨ι', I', r, H, k1, k2, k3, k4, k5, r', k6, k7⟩ := hq
    unfold frzR at k6
    split at k6
    · rename_i vs' hr'
      cases hr'
      split at k6 <;> cases k6
      rename_i ps h1 hf
      simp only [arel, AV.lt] at k4 k5
      obtain ⟨us, rfl, k4⟩ := k4
      obtain ⟨I2, a1, a2, a3, a4⟩ := frzA_sound k1 k4 k5 hf
      exact ⟨ι', I2, .pv (.tup ps), h1, a1, k2.trans a2 k3, by omega, by simp only [arel, rel]; exact ⟨us, rfl, a3⟩, trivial, k7⟩
    · rename_i v' hr'
      cases hr'
      split at k6 <;> cases k6
      rename_i p h1 hf
      obtain ⟨I2, a1, a2, a3, a4⟩ := frzV_sound k1 k4 k5 hf
      exact ⟨ι', I2, .pv p, h1, a1, k2.trans a2 k3, by omega, by simp only [arel]; exact a3, trivial, k7⟩
    · rename_i hr'; cases hr'
  | panicked ch =>
    obtain ⟨ι', I', p, v, H, k0, k1, k2, k3, k4, r', k6, k7⟩ := hq
    cases k6
    exact ⟨ι', I', p, v, H, k0, k1, k2, k3, k4, k7⟩
  | outgrown => exact hq.elim
def PureQ (P : Program) (rs : Array ResultVar) (r : PV) : AQ := RetQ P rs (fun x h' => kR (frzR h' x) (fun y => y = .ret (.pv r)))
@[go_sem] theorem PureQ_ret {rs : List ResultVar} {r : PV} {e : AEnv} {h : AHeap} : PureQ P rs.toArray r .ret e h = kL (resL P e h rs) (fun vs => kR (frzR h (.ret (tupV vs))) (fun y => y = .ret (.pv r))) := by simp only [PureQ, RetQ]
@[go_sem] theorem PureQ_norm {rs : List ResultVar} {r : PV} {e : AEnv} {h : AHeap} : PureQ P rs.toArray r .norm e h = kL (resL P e h rs) (fun vs => kR (frzR h (.ret (tupV vs))) (fun y => y = .ret (.pv r))) := by simp only [PureQ, RetQ]
attribute [go_sem] CR.ret.injEq AV.pv.injEq PV.int.injEq PV.bool.injEq PV.str.injEq PV.sl.injEq PV.agg.injEq PV.tup.injEq List.cons.injEq
/-- A pure function's contract, out of its code. -/
theorem pure_of {fn : Func} {c : Code} {ps : List PV} {r : PV} {N : Nat} (hf : P.funcs[f]? = some fn) (hb : fn.body = some c) (hn : (fn.name == "runtime.NumGoroutine") = false) (hN : fn.ntmps = N) {rs : Array ResultVar} (hrs : fn.results = rs)
    (ha : ps.length ≤ N) (hv : VcZ true P N 0 (PureQ P rs r) [.code c] (argE (ps.map .pv)) []) : Pure P f ps r :=
  FnK.freeze (fnK_of_vc hf hb hn hN (by simpa using ha) (Nat.zero_le _) (by rw [hrs]; exact hv))
end

/-! ### 27. The same state, told otherwise -/
def Wk (pin : Nat) (e : AEnv) (h : AHeap) (e' : AEnv) (h' : AHeap) : Prop := ∀ G ι I w a N, Inv G ι I h w → ERel N h.length w I ι e a → pin ≤ h.length →
  ∃ ι' I', Inv G ι' I' h' w ∧ ERel N h'.length w I' ι' e' a ∧ Ext I I' ι ι' pin w w ∧ pin ≤ h'.length
def okE (n : Nat) (ρ : Nat → Nat) (e e' : AEnv) : Prop := ∀ t, e' t = .undef ∨ ((e' t).lt n ∧ e t = (e' t).ren ρ)
def okH (n : Nat) (ρ : Nat → Nat) (h : AHeap) : List Nat → AHeap → Prop
  | [], [] => True
  | id :: ids, o :: H => o.lt n ∧ h[id]? = some (o.ren ρ) ∧ okH n ρ h ids H
  | _, _ => False
theorem okE_E0 {n : Nat} {ρ : Nat → Nat} {e : AEnv} : okE n ρ e E0 := fun t => .inl rfl
theorem okE_put {n : Nat} {ρ : Nat → Nat} {e e' : AEnv} {d : Nat} {v : AV} (h1 : v.lt n) (h2 : e d = v.ren ρ) (h3 : okE n ρ e e') : okE n ρ e (e'.put d v) := by
  intro t
  simp only [AEnv.put]
  split
  · rename_i ht; subst ht; exact .inr ⟨h1, h2⟩
  · exact h3 t
theorem okH_get {n : Nat} {ρ : Nat → Nat} {h : AHeap} : ∀ {ids : List Nat} {H : AHeap}, okH n ρ h ids H → H.length = ids.length ∧ ∀ (i : Nat) (o : AObj), H[i]? = some o → o.lt n ∧ ∃ id, ids[i]? = some id ∧ h[id]? = some (o.ren ρ)
  | [], [], _ => ⟨rfl, fun i o hi => by simp at hi⟩
  | id :: ids, o :: H, hk => by
    obtain ⟨h1, h2, h3⟩ := hk
    obtain ⟨k1, k2⟩ := okH_get h3
    refine ⟨by simp [k1], fun i o' hi => ?_⟩
    cases i with
    | zero => simp at hi; subst hi; exact ⟨h1, id, rfl, h2⟩
    | succ i => simpa using k2 i o' (by simpa using hi)
  | [], _ :: _, hk => hk.elim
  | _ :: _, [], hk => hk.elim
theorem Wk.refl {pin : Nat} {e : AEnv} {h : AHeap} : Wk pin e h e h := fun G ι I w a N h1 h2 h3 => ⟨ι, I, h1, h2, Ext.refl _ _ _ _, h3⟩
theorem Wk.trans {pin : Nat} {e e1 e2 : AEnv} {h h1 h2 : AHeap} (k : Wk pin e h e1 h1) (l : Wk pin e1 h1 e2 h2) : Wk pin e h e2 h2 := by
  intro G ι I w a N i1 i2 i3
  obtain ⟨ι', I', a1, a2, a3, a4⟩ := k G ι I w a N i1 i2 i3
  obtain ⟨ι2, I2, b1, b2, b3, b4⟩ := l G ι' I' w a N a1 a2 a4
  exact ⟨ι2, I2, b1, b2, a3.trans b3 (Nat.le_refl _), b4⟩
/-- Only some of the own objects are kept, under other numbers. -/
theorem Wk.perm {pin : Nat} {e e' : AEnv} {h H : AHeap} (ids : List Nat) (hnd : ids.Nodup) (hpin : ids.take pin = List.range pin) (hH : okH H.length (fun j => ids.getD j 0) h ids H) (hE : okE H.length (fun j => ids.getD j 0) e e') : Wk pin e h e' H := by
  intro G ι I w a N hI hR hp
  obtain ⟨hlen, hobj⟩ := okH_get hH
  let ρ0 : Nat → Nat := fun j => ids.getD j 0
  have hρ : ∀ {i id : Nat}, ids[i]? = some id → ρ0 i = id := fun hi => by simp [ρ0, List.getD_eq_getElem?_getD, hi]
  have hple : pin ≤ ids.length := by
    have := congrArg List.length hpin
    simp at this; omega
  have hin : ∀ {i : Nat} {o : AObj}, H[i]? = some o → h[ρ0 i]? = some (o.ren ρ0) := fun hi => by
    obtain ⟨_, id, h1, h2⟩ := hobj _ _ hi
    rw [hρ h1]; exact h2
  have hdist : ∀ {i j : Nat}, i < H.length → j < H.length → ρ0 i = ρ0 j → i = j := fun {i j} hi hj e => by
    have e1 : ids[i]? = some (ρ0 i) := by have : i < ids.length := by omega
                                          simp [ρ0, List.getD_eq_getElem?_getD, this]
    have e2 : ids[j]? = some (ρ0 j) := by have : j < ids.length := by omega
                                          simp [ρ0, List.getD_eq_getElem?_getD, this]
    have h1 := ix_of hnd e1
    have h2 := ix_of hnd e2
    rw [e] at h1; rw [h1] at h2; exact Option.some.inj h2
  refine ⟨fun j => ι (ρ0 j), I, ?_, ?_, ?_, by omega⟩
  · refine ⟨hI.os, hI.tape, hI.output, hI.size, hI.frame, hI.sub, hI.bound, fun i o hi => ?_, fun i o hi hlv => ?_, fun i j oi oj hi hj hne li lj => ?_⟩
    · exact ⟨(hobj i o hi).1, objRel_ren.1 (hI.obj _ _ (hin hi)).2⟩
    · exact hI.own (ρ0 i) _ (hin hi) (by rw [live_ren]; exact hlv)
    · exact hI.inj (ρ0 i) (ρ0 j) _ _ (hin hi) (hin hj) (fun e => hne (hdist (List.getElem?_eq_some_iff.1 hi).1 (List.getElem?_eq_some_iff.1 hj).1 e)) (by rw [live_ren]; exact li) (by rw [live_ren]; exact lj)
  · refine ⟨hR.size, fun t ht => ?_, fun t => ?_, fun t => ?_⟩
    · rcases hE t with h1 | ⟨h1, h2⟩
      · exact h1
      · rw [hR.out t ht] at h2
        cases hx : e' t <;> rw [hx] at h2 <;> simp only [AV.ren] at h2 <;> cases h2
    · rcases hE t with h1 | ⟨h1, h2⟩
      · rw [h1]; trivial
      · exact h1
    · rcases hE t with h1 | ⟨h1, h2⟩
      · rw [h1]; simp only [arel]
      · have := hR.rel t
        rw [h2] at this
        exact (arel_ren _ _).1 this
  · refine ⟨fun _ x => x, fun _ _ => rfl, fun id hid => ?_⟩
    have : ids[id]? = some id := by
      have h1 : (ids.take pin)[id]? = some id := by rw [hpin]; simp [hid]
      rwa [List.getElem?_take_of_lt hid] at h1
    show ι (ρ0 id) = ι id
    rw [hρ this]
/-- A nil slice as an own array of nothing. -/
theorem Wk.nil {pin : Nat} {e : AEnv} {h : AHeap} (t : Nat) (T : TypeId) (sz : Nat) (ht : e t = .nils) : Wk pin e h (e.put t (.osl h.length 0)) (h ++ [.arr T sz []]) := by
  intro G ι I w a N hI hR hp
  obtain ⟨k1, k2⟩ := hI.push (.arr T sz []) 0 0 trivial (.inl ⟨rfl, rfl⟩) (fun hl => by simp [AObj.live] at hl)
  have hR' := hR.ext k2 (m := (h ++ [AObj.arr T sz []]).length) (by simp)
  refine ⟨_, I, k1, ?_, ⟨k2.hi, k2.hk, fun id hid => k2.hj id (by omega)⟩, by simp; omega⟩
  have hN : t < N := by
    rcases Nat.lt_or_ge t N with h1 | h1
    · exact h1
    · have := hR.out t h1; rw [ht] at this; cases this
  have hv := hR.rel t
  rw [ht] at hv
  simp only [arel] at hv
  refine ⟨hR'.size, fun u hu => ?_, fun u => ?_, fun u => ?_⟩
  · simp only [AEnv.put]; rw [if_neg (by omega)]; exact hR.out u hu
  · simp only [AEnv.put]; split
    · simp [AV.lt]
    · exact hR'.lt u
  · simp only [AEnv.put]; split
    · rename_i e1; subst e1
      simp only [arel]
      exact .inl ⟨hv, trivial, by rw [upd_same]⟩
    · exact hR'.rel u
def WkP (pin : Nat) (e : AEnv) (h : AHeap) (J : AEnv → AHeap → Prop) : Prop := ∃ e' h', Wk pin e h e' h' ∧ J e' h'

/-! ### 28. Loops -/
theorem exists_min {p : Nat → Prop} (h : ∃ n, p n) : ∃ n, p n ∧ ∀ m, p m → n ≤ m := by
  obtain ⟨n, hn⟩ := h
  induction n using Nat.strongRecOn with
  | _ n ih =>
    by_cases hx : ∃ m, m < n ∧ p m
    · obtain ⟨m, h1, h2⟩ := hx; exact ih m h1 h2
    · exact ⟨n, hn, fun m hm => Nat.le_of_not_lt fun hl => hx ⟨m, hl, hm⟩⟩
open Classical in
noncomputable def minOf (p : Nat → Prop) : Nat := if h : ∃ n, p n then (exists_min h).choose else 0
theorem minOf_spec {p : Nat → Prop} (h : ∃ n, p n) : p (minOf p) ∧ ∀ m, p m → minOf p ≤ m := by
  unfold minOf
  rw [dif_pos h]
  exact (exists_min h).choose_spec
section
variable {P : Program} {N pin : Nat} {Q : AQ}
theorem vz_loop {σ : Type} (μ : σ → Nat) (J : σ → AEnv → AHeap → Prop) {c : Code} {k : List It} {e : AEnv} {h : AHeap} (s0 : σ) (h0 : WkP pin e h (J s0))
    (hs : ∀ s e h, J s e h → VcZ true P N pin Q (.code c :: .back (fun e' h' => ∃ s', μ s' < μ s ∧ WkP pin e' h' (J s')) :: k) e h) : VcZ true P N pin Q (.code (.loop c) :: k) e h := by
  refine Vc.stop rfl ?_
  simp only [After]
  intro cx a w ι I hA
  let V : σ → Act → World → Prop := fun s a w => ∃ ι I e h, At N pin cx e h a w ι I ∧ J s e h
  have weak : ∀ {e h a w ι I s}, At N pin cx e h a w ι I → WkP pin e h (J s) → V s a w := by
    rintro e h a w ι I s hA ⟨e', h', hW, hJ⟩
    obtain ⟨ι', I', a1, a2, a3, a4⟩ := hW cx.G ι I w a N hA.inv hA.env hA.pin
    exact ⟨ι', I', e', h', ⟨a1, a2, hA.ext.trans a3 (Nat.le_refl _), a4, hA.dfr⟩, hJ⟩
  refine wp_loop (fun a w => ∃ s, V s a w) (fun a w => minOf fun n => ∃ s, μ s = n ∧ V s a w) ⟨s0, weak hA h0⟩ ?_
  rintro a w ⟨s1, hs1⟩
  obtain ⟨⟨s, e1, ι, I, e, h, hA, hJ⟩, _⟩ := minOf_spec (p := fun n => ∃ s, μ s = n ∧ V s a w) ⟨_, s1, rfl, hs1⟩
  have hw := Vc.sound (hs s e h hJ)
  simp only [After] at hw
  refine Code.wp_mono ?_ (hw cx a w ι I hA)
  intro ex a' w' hq
  cases ex with
  | normal =>
    obtain ⟨ι', I', e', h', h1, h2⟩ := hq
    simp only [After] at h2
    obtain ⟨s', h3, h4⟩ := h2
    have h5 := weak h1 h4
    refine ⟨⟨s', h5⟩, ?_⟩
    rw [← e1]
    exact Nat.lt_of_le_of_lt ((minOf_spec (p := fun n => ∃ s, μ s = n ∧ V s a' w') ⟨_, s', rfl, h5⟩).2 _ ⟨s', rfl, h5⟩) h3
  | exit id => exact hq
  | ret => exact hq
  | panic ch => exact hq
  | goto l => exact hq
  | outgrown => exact hq
structure Repl (P : Program) (N pin : Nat) (Q : AQ) (t1 t2 : List It) : Prop where
  vc : ∀ e h, Vc P N pin Q t1 e h → Vc P N pin Q t2 e h
  af : ∀ x e h, After P N pin Q t1 x e h → After P N pin Q t2 x e h
  pop : ∀ id k', popTo id t1 = some k' → popTo id t2 = some k'
theorem After_repl {t1 t2 : List It} (R : Repl P N pin Q t1 t2) : ∀ (k1 : List It) (x : AX) (e : AEnv) (h : AHeap), After P N pin Q (k1 ++ t1) x e h → After P N pin Q (k1 ++ t2) x e h
  | [], x, e, h, ha => R.af x e h ha
  | .code c :: k1, x, e, h, ha => by
    cases x <;> simp only [List.cons_append, After] at ha ⊢
    · exact fun cx a w ι I hA => Code.wp_mono (QR_mono (After_repl R k1)) (ha cx a w ι I hA)
    all_goals exact After_repl R k1 _ e h ha
  | .ops all l :: k1, x, e, h, ha => by
    cases x <;> simp only [List.cons_append, After] at ha ⊢
    · intro cx a w ι I hA
      have := ha cx a w ι I hA
      have key : ∀ (l : List Oper) (a : Act) (w : World), wpList P all (QR N pin cx (After P N pin Q (k1 ++ t1))) l a w → wpList P all (QR N pin cx (After P N pin Q (k1 ++ t2))) l a w := by
        intro l
        induction l with
        | nil => intro a w hw; exact QR_mono (After_repl R k1) _ _ _ hw
        | cons o l ih =>
          intro a w hw
          unfold wpList at hw ⊢
          split at hw
          · rename_i hwt
            rw [if_pos hwt]
            rcases hw with hw | ⟨_, _, _, hf⟩
            · left
              unfold Oper.wp at *
              generalize (execOp a.eval o).run P w = r at *
              cases r with
              | ok n w' =>
                cases n <;> simp only [Oper.upon] at hw ⊢ <;>
                  first
                    | exact ih _ _ hw
                    | exact Calls.mono hw (fun en w'' he => by
                        cases en with
                        | returned v => exact ih _ _ he
                        | panicked ch => exact QR_mono (After_repl R k1) _ _ _ he
                        | outgrown => obtain ⟨_, _, hf⟩ := he; exact hf.elim)
                    | exact Rows.mono hw (fun _ _ he => ih _ _ he)
              | halt x w' => cases x <;> simp only [Oper.upon] at hw ⊢ <;> exact QR_mono (After_repl R k1) _ _ _ hw
            · exact hf.elim
          · rename_i hwt
            rw [if_neg hwt]
            exact ih _ _ hw
      exact key l a w this
    all_goals exact After_repl R k1 _ e h ha
  | .blk id :: k1, x, e, h, ha => by
    cases x <;> simp only [List.cons_append, After] at ha ⊢
    · exact After_repl R k1 _ e h ha
    · split at ha
      · rename_i hid; rw [if_pos hid]; exact After_repl R k1 _ e h ha
      · rename_i hid; rw [if_neg hid]; exact After_repl R k1 _ e h ha
    all_goals exact After_repl R k1 _ e h ha
  | .back R' :: k1, x, e, h, ha => by
    cases x <;> simp only [List.cons_append, After] at ha ⊢
    · exact ha
    all_goals exact After_repl R k1 _ e h ha
theorem popTo_repl {id : Nat} {t1 t2 : List It} (R : Repl P N pin Q t1 t2) : ∀ {k1 k' : List It}, popTo id (k1 ++ t1) = some k' → (∃ k1', k' = k1' ++ t1 ∧ popTo id (k1 ++ t2) = some (k1' ++ t2)) ∨ popTo id (k1 ++ t2) = some k'
  | [], k', h => .inr (R.pop id k' h)
  | .code c :: k1, k', h => by simp only [List.cons_append, popTo] at h ⊢; exact popTo_repl R h
  | .ops _ _ :: k1, k', h => by simp only [List.cons_append, popTo] at h ⊢; exact popTo_repl R h
  | .back _ :: k1, k', h => by simp only [List.cons_append, popTo] at h ⊢; exact popTo_repl R h
  | .blk id' :: k1, k', h => by
    simp only [List.cons_append, popTo] at h ⊢
    split at h
    · rename_i e; cases h; rw [if_pos e]; exact .inl ⟨k1, rfl, rfl⟩
    · rename_i e; rw [if_neg e]; exact popTo_repl R h
/-- A part of the stack in the place of another. -/
theorem Vc.repl {t1 t2 : List It} (R : Repl P N pin Q t1 t2) {k : List It} {e : AEnv} {h : AHeap} (hv : Vc P N pin Q k e h) : ∀ k1, k = k1 ++ t1 → Vc P N pin Q (k1 ++ t2) e h := by
  have nilc : ∀ {k : List It} {e : AEnv} {h : AHeap}, Vc P N pin Q k e h → k = [] ++ t1 → Vc P N pin Q ([] ++ t2) e h := fun hv hk => R.vc _ _ (by rw [List.nil_append] at hk; exact hk ▸ hv)
  induction hv with
  | nil hq => intro k1 hk; cases k1 with | nil => exact nilc (.nil hq) hk | cons it k1 => cases hk
  | skip hv ih => intro k1 hk; cases k1 with | nil => exact nilc (.skip hv) hk | cons it k1 => cases hk; exact .skip (ih _ rfl)
  | seq hv ih => intro k1 hk; cases k1 with | nil => exact nilc (.seq hv) hk | cons it k1 => cases hk; exact .seq (ih (_ :: _ :: _) rfl)
  | cond hc h1 h2 i1 i2 => intro k1 hk; cases k1 with | nil => exact nilc (.cond hc h1 h2) hk | cons it k1 => cases hk; exact .cond hc (fun hb => i1 hb (_ :: _) rfl) (fun hb => i2 hb (_ :: _) rfl)
  | block hv ih => intro k1 hk; cases k1 with | nil => exact nilc (.block hv) hk | cons it k1 => cases hk; exact .block (ih (_ :: _ :: _) rfl)
  | blk hv ih => intro k1 hk; cases k1 with | nil => exact nilc (.blk hv) hk | cons it k1 => cases hk; exact .blk (ih _ rfl)
  | exit hp hv ih =>
    intro k1 hk
    cases k1 with
    | nil => exact nilc (.exit hp hv) hk
    | cons it k1 =>
      cases hk
      rcases popTo_repl R hp with ⟨k1', e1, e2⟩ | e2
      · exact .exit e2 (ih k1' e1)
      · exact .exit e2 hv
  | ret hq => intro k1 hk; cases k1 with | nil => exact nilc (.ret hq) hk | cons it k1 => cases hk; exact .ret hq
  | region hv ih => intro k1 hk; cases k1 with | nil => exact nilc (.region hv) hk | cons it k1 => cases hk; exact .region (ih (_ :: _) rfl)
  | opsN hv ih => intro k1 hk; cases k1 with | nil => exact nilc (.opsN hv) hk | cons it k1 => cases hk; exact .opsN (ih _ rfl)
  | guard hg hd hy h1 h2 i1 i2 => intro k1 hk; cases k1 with | nil => exact nilc (.guard hg hd hy h1 h2) hk | cons it k1 => cases hk; exact .guard hg hd hy (fun hb => i1 hb (_ :: _) rfl) (fun hb => i2 hb (_ :: _) rfl)
  | guardU hg hd hy hv ih => intro k1 hk; cases k1 with | nil => exact nilc (.guardU hg hd hy hv) hk | cons it k1 => cases hk; exact .guardU hg hd hy (ih (_ :: _) rfl)
  | opA hg hk' hd hs hv ih => intro k1 hk; cases k1 with | nil => exact nilc (.opA hg hk' hd hs hv) hk | cons it k1 => cases hk; exact .opA hg hk' hd hs (ih (_ :: _) rfl)
  | call hg hd ho hf hc hv hp ih => intro k1 hk; cases k1 with | nil => exact nilc (.call hg hd ho hf hc hv hp) hk | cons it k1 => cases hk; exact .call hg hd ho hf hc (fun v h' hr => ih v h' hr (_ :: _) rfl) hp
  | back hr => intro k1 hk; cases k1 with | nil => exact nilc (.back hr) hk | cons it k1 => cases hk; exact .back hr
  | stop hs ha => intro k1 hk; cases k1 with | nil => exact nilc (.stop hs ha) hk | cons it k1 => cases hk; exact .stop hs (After_repl R (_ :: k1) _ _ _ ha)
/-- A cut: the rest of the stack from what is known at a place in it. -/
theorem vz_cut (J : AEnv → AHeap → Prop) {x y : Code} {k : List It} {e : AEnv} {h : AHeap} (h1 : VcZ true P N pin Q (.code x :: .back J :: .code y :: k) e h) (h2 : ∀ e h, J e h → VcZ true P N pin Q (.code y :: k) e h) : VcZ true P N pin Q (.code (.seq x y) :: k) e h := by
  have R : Repl P N pin Q (.back J :: .code y :: k) (.code y :: k) := by
    refine ⟨fun e h hv => ?_, fun x e h ha => ?_, fun id k' hp => hp⟩
    · rw [vc_back] at hv; exact h2 e h hv
    · cases x with
      | norm => simp only [After] at ha; exact Vc.sound (h2 e h ha)
      | exit id => simp only [After] at ha ⊢; exact ha
      | ret => simp only [After] at ha ⊢; exact ha
      | pan p => simp only [After] at ha ⊢; exact ha
  exact Vc.seq (Vc.repl R h1 [.code x] rfl)
theorem vz_assoc {x y z : Code} {k : List It} {e : AEnv} {h : AHeap} (h1 : VcZ true P N pin Q (.code (.seq (.seq x y) z) :: k) e h) : VcZ true P N pin Q (.code (.seq x (.seq y z)) :: k) e h := by
  have R : Repl P N pin Q (.code y :: .code z :: k) (.code (.seq y z) :: k) := by
    refine ⟨fun e h hv => .seq hv, fun x e h ha => ?_, fun id k' hp => hp⟩
    cases x with
    | norm => exact go_seq ha
    | exit id => simp only [After] at ha ⊢; exact ha
    | ret => simp only [After] at ha ⊢; exact ha
    | pan p => simp only [After] at ha ⊢; exact ha
  rw [vz_seq, vz_seq] at h1
  exact Vc.seq (Vc.repl R h1 [.code x] rfl)
end
end Go.Proofs.YtahamnipffckhaaDoor
