import Derived.Test.YtahamnipffckhaaDoorAm20
set_option linter.unusedVariables false
set_option linter.unusedSimpArgs false
namespace Go.Proofs.YtahamnipffckhaaDoor
open Go Go.RowKit

/-! ### 38. What is left behind, told in order -/
section
variable {P : Program} {f : FuncId}
theorem inv_perm {G : Ghost} {ι : Nat → Nat × Nat} {I : Nat → Prop} {h H : AHeap} {w : World} {pin : Nat} (ids : List Nat) (hI : Inv G ι I h w) (hp : pin ≤ h.length) (hnd : ids.Nodup) (hpin : ids.take pin = List.range pin) (hH : okH H.length (fun j => ids.getD j 0) h ids H)
    {r r0 : AV} {v : Value} (hr : arel w I ι r v) (hrl : r.lt h.length) (hr0 : r = r0.ren (fun j => ids.getD j 0)) (hl0 : r0.lt H.length) : ∃ ι' I', Inv G ι' I' H w ∧ Ext I I' ι ι' pin w w ∧ pin ≤ H.length ∧ arel w I' ι' r0 v := by
  have hE : ERel 1 h.length w I ι (E0.put 0 r) { tmps := #[v], defers := [] } := by
    refine ⟨rfl, fun t ht => ?_, fun t => ?_, fun t => ?_⟩
    · simp only [AEnv.put]; rw [if_neg (by omega)]; rfl
    · simp only [AEnv.put]; split
      · exact hrl
      · trivial
    · simp only [AEnv.put]; split
      · rename_i e; subst e; simpa using hr
      · simp only [E0, arel]
  obtain ⟨ι', I', k1, k2, k3, k4⟩ := Wk.perm (e := E0.put 0 r) (e' := E0.put 0 r0) ids hnd hpin hH (okE_put hl0 (by simp only [AEnv.put, if_true]; exact hr0) okE_E0) G ι I w _ 1 hI hE hp
  refine ⟨ι', I', k1, k3, k4, ?_⟩
  have := k2.rel 0
  simpa [AEnv.put] using this
/-- What a function leaves behind may be told in another order. -/
theorem FnK.perm {args : List AV} {h : AHeap} {pin : Nat} {K : CR → AHeap → Prop} (hc : FnK P f args h pin (fun r h' => match r with
    | .ret v => ∃ ids H v0, ids.Nodup ∧ ids.take pin = List.range pin ∧ okH H.length (fun j => ids.getD j 0) h' ids H ∧ v = v0.ren (fun j => ids.getD j 0) ∧ v0.lt H.length ∧ K (.ret v0) H
    | .pan p => K (.pan p) h')) : FnK P f args h pin K := by
  refine ⟨hc.1, fun G ι I w vs hI hr hl => (hc.2 G ι I w vs hI hr hl).mono ?_⟩
  intro en w' hq
  cases en with
  | returned v =>
    obtain ⟨ι', I', r, h', k1, k2, k3, k4, k5, ids, H, v0, q1, q2, q3, q4, q5, q6⟩ := hq
    obtain ⟨ι2, I2, p1, p2, p3, p4⟩ := inv_perm ids k1 k3 q1 q2 q3 k4 k5 q4 q5
    exact ⟨ι2, I2, v0, H, p1, k2.trans p2 (Nat.le_refl _), p3, p4, q5, q6⟩
  | panicked ch =>
    obtain ⟨ι', I', p, v, h', k0, k1, k2, k3, k4, k5⟩ := hq
    exact ⟨ι', I', p, v, h', k0, k1, k2, k3, k4, k5⟩
  | outgrown => exact hq.elim
/-- The same own objects, told otherwise. -/
def HWk (h h' : AHeap) : Prop := ∀ G ι I w, Inv G ι I h w → ∃ ι' I', Inv G ι' I' h' w ∧ Ext I I' ι ι' h.length w w ∧ h.length ≤ h'.length
theorem CallK.hwk {args : List AV} {h h' : AHeap} {K : CR → AHeap → Prop} (hw : HWk h h') (hc : CallK P f args h' K) : CallK P f args h K := by
  refine ⟨hc.1, fun G ι I w vs hI hr hl => ?_⟩
  obtain ⟨ι', I', k1, k2, k3⟩ := hw G ι I w hI
  refine (hc.2 G ι' I' w vs k1 (arelL_ext k2 _ _ hl hr) (AV.ltL_mono k3 _ hl)).mono ?_
  intro en w' hq
  cases en with
  | returned v =>
    obtain ⟨ι2, I2, r, H, q1, q2, q3, q4, q5, q6⟩ := hq
    exact ⟨ι2, I2, r, H, q1, k2.trans q2 k3, Nat.le_trans k3 q3, q4, q5, q6⟩
  | panicked ch =>
    obtain ⟨ι2, I2, p, v, H, q0, q1, q2, q3, q4, q5⟩ := hq
    exact ⟨ι2, I2, p, v, H, q0, q1, k2.trans q2 k3, Nat.le_trans k3 q3, q4, q5⟩
  | outgrown => exact hq.elim
/-- A nil slice in a variable, as an own array of nothing. -/
theorem HWk.nil {h : AHeap} {i j : Nat} {cs : List AV} (T : TypeId) (sz : Nat) (hi : h[i]? = some (.box cs)) (hj : cs[j]? = some .nils) : HWk h (h.set i (.box (cs.set j (.osl h.length 0))) ++ [.arr T sz []]) := by
  intro G ι I w hI
  have hil : i < h.length := (List.getElem?_eq_some_iff.1 hi).1
  obtain ⟨k1, k2⟩ := hI.push (.arr T sz []) 0 0 trivial (.inl ⟨rfl, rfl⟩) (fun hl => by simp [AObj.live] at hl)
  refine ⟨_, I, ?_, k2, by simp⟩
  have hi' : (h ++ [AObj.arr T sz []])[i]? = some (.box cs) := by rw [List.getElem?_append_left hil]; exact hi
  obtain ⟨b1, vs, t, b2, b3, b4⟩ := k1.obj i _ hi'
  have hvs : vs[j]? = some (.slice none 0 0) := by
    obtain ⟨u, u1, u2⟩ := arelL_get b4 hj
    simp only [arel] at u2
    rw [u1, u2]
  have hjl : j < cs.length := (List.getElem?_eq_some_iff.1 hj).1
  have hcs : vs.set j (.slice none 0 0) = vs := by
    apply List.ext_getElem?
    intro k
    by_cases e : k = j
    · subst e
      rw [List.getElem?_set_self (List.getElem?_eq_some_iff.1 hvs).1, hvs]
    · rw [List.getElem?_set_ne (fun q => e q.symm)]
  obtain ⟨w1, w2⟩ := k1.write (o' := .box (cs.set j (.osl h.length 0))) (w' := w) hi' rfl rfl rfl ⟨rfl, Nat.le_refl _⟩ rfl (fun _ _ => rfl)
    (AV.ltL_iff.2 fun c hc => by
      rcases List.mem_or_eq_of_mem_set hc with h1 | h1
      · exact AV.ltL_iff.1 b1 c h1
      · subst h1; simp [AV.lt])
    ⟨vs, t, b2, fun c hc => by
      rcases List.mem_or_eq_of_mem_set hc with h1 | h1
      · exact b3 c h1
      · subst h1; rfl, by
      rw [← hcs]
      refine arelL_set b4 ?_
      simp [arel, upd_same]⟩
  rw [List.set_append_left _ _ hil] at w1
  exact w1
/-- A call over own objects that may turn their numbers. -/
theorem FnK.callN {args0 args : List AV} {h0 h : AHeap} {p : Nat} {K0 : CR → AHeap → Prop} (hc : FnK P f args0 h0 p K0) (ids : List Nat) (hnd : ids.Nodup) (hp : p ≤ ids.length) (hH : okH h0.length (fun j => ids.getD j 0) h ids h0) (hargl : AV.ltL h0.length args0)
    (harg : args = AV.renL (fun j => ids.getD j 0) args0) {K : Bool → CR → AHeap → Prop} (hk : ∀ r h'', K0 r h'' → K true (r.ren (rho h.length ids p)) (mrg h ids p h'')) : CallZ P f args h K := by
  subst harg
  obtain ⟨e1, e2⟩ := okH_get hH
  refine FnK.frame hc ids hnd e1 hp (fun i o hi => ?_) hargl fun r h'' _ hK => hk r h'' hK
  obtain ⟨k1, id, k2, k3⟩ := e2 i o hi
  refine ⟨k1, ?_⟩
  rw [List.getD_eq_getElem?_getD, k2]
  exact k3
theorem fnKp_of {fn : Func} {c : Code} {args : List AV} {h : AHeap} {K : CR → AHeap → Prop} {N pin : Nat} (hf : P.funcs[f]? = some fn) (hb : fn.body = some c) (hn : (fn.name == "runtime.NumGoroutine") = false) (hN : fn.ntmps = N) {rs : Array ResultVar} (hrs : fn.results = rs)
    (ha : args.length ≤ N) (hl : pin ≤ h.length) (hv : VcZ true P N pin (RetQ P rs (fun r h' => match r with
    | .ret v => ∃ ids H v0, ids.Nodup ∧ ids.take pin = List.range pin ∧ okH H.length (fun j => ids.getD j 0) h' ids H ∧ v = v0.ren (fun j => ids.getD j 0) ∧ v0.lt H.length ∧ K (.ret v0) H
    | .pan p => K (.pan p) h')) [.code c] (argE args) h) : FnK P f args h pin K :=
  FnK.perm (fnK_of_vc hf hb hn hN ha hl (by rw [hrs]; exact hv))
end
attribute [go_sem] rho mrgO mrg
end Go.Proofs.YtahamnipffckhaaDoor
