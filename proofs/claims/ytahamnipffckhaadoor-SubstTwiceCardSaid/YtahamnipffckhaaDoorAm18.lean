import Derived.Test.YtahamnipffckhaaDoorAm17
set_option linter.unusedVariables false
set_option linter.unusedSimpArgs false
namespace Go.Proofs.YtahamnipffckhaaDoor
open Go Go.RowKit

/-! ### 33. A function over own objects that keep their numbers -/
def RefK (P : Program) (f : FuncId) (args : List AV) (h : AHeap) (K : CR → AHeap → Prop) : Prop := FnK P f args h h.length (fun r h' => K r (h'.take h.length))
def updO (ids : List Nat) (hs : AHeap) (j : Nat) (o : AObj) : AObj := match ix ids j with
  | some i => (hs.getD i .gone).ren (fun j => ids.getD j 0)
  | none => o
def upd2 (h : AHeap) (ids : List Nat) (hs : AHeap) : AHeap := h.mapIdx (updO ids hs)
section
variable {P : Program} {f : FuncId}
theorem ren_congr' : ∀ (n : Nat) {r r' : Nat → Nat}, (∀ i, i < n → r i = r' i) → (∀ x : AV, x.lt n → x.ren r = x.ren r') ∧ (∀ xs : List AV, AV.ltL n xs → AV.renL r xs = AV.renL r' xs) := by
  intro n r r' h
  have key : ∀ x : AV, x.lt n → x.ren r = x.ren r' := fun x => by
    induction x using AV.rec (motive_2 := fun xs => AV.ltL n xs → AV.renL r xs = AV.renL r' xs) with
    | pv p => intro _; rfl
    | nils => intro _; rfl
    | ptr id off => intro hx; simp only [AV.lt] at hx; simp only [AV.ren, h id hx]
    | eptr id sz i j => intro hx; simp only [AV.lt] at hx; simp only [AV.ren, h id hx]
    | iptr cs => intro _; rfl
    | osl id m => intro hx; simp only [AV.lt] at hx; simp only [AV.ren, h id hx]
    | osb id sz lo m => intro hx; simp only [AV.lt] at hx; simp only [AV.ren, h id hx]
    | agg cs ih => intro hx; simp only [AV.lt] at hx; simp only [AV.ren, ih hx]
    | tup cs ih => intro hx; simp only [AV.lt] at hx; simp only [AV.ren, ih hx]
    | fn f cs ih => intro hx; simp only [AV.lt] at hx; simp only [AV.ren, ih hx]
    | mp id => intro hx; simp only [AV.lt] at hx; simp only [AV.ren, h id hx]
    | undef => intro _; rfl
    | nil => rfl
    | cons c cs i1 i2 => rename_i hx; simp only [AV.ltL] at hx; simp only [AV.renL, i1 hx.1, i2 hx.2]
  refine ⟨key, fun xs => ?_⟩
  induction xs with
  | nil => intro _; rfl
  | cons c cs ih => intro hx; simp only [AV.ltL] at hx; simp only [AV.renL, key c hx.1, ih hx.2]
theorem oren_congr {n : Nat} {r r' : Nat → Nat} (h : ∀ i, i < n → r i = r' i) : ∀ {o : AObj}, o.lt n → o.ren r = o.ren r'
  | .box cs, hl => by simp only [AObj.lt] at hl; simp only [AObj.ren, (ren_congr' n h).2 cs hl]
  | .mp _ es, hl => by
    simp only [AObj.lt] at hl
    simp only [AObj.ren]
    congr 1
    funext k
    cases hf : es k with
    | none => rfl
    | some u => simp only [Option.map_some, (ren_congr' n h).1 u (hl k u hf)]
  | .arr _ _ _, _ => rfl
  | .imm _ _, _ => rfl
  | .gone, _ => rfl
theorem RefK.call {args0 args : List AV} {h0 h : AHeap} {K0 : CR → AHeap → Prop} (hc : RefK P f args0 h0 K0) (ids : List Nat) (hnd : ids.Nodup) (hlen : h0.length = ids.length)
    (hobj : ∀ i o, h0[i]? = some o → o.lt h0.length ∧ h[ids.getD i 0]? = some (o.ren fun j => ids.getD j 0)) (hargl : AV.ltL h0.length args0) (harg : args = AV.renL (fun j => ids.getD j 0) args0) {K : Bool → CR → AHeap → Prop}
    (hk : ∀ r hs, hs.length = h0.length → K0 r hs → r.lt h0.length ∧ (∀ o ∈ hs, o.lt h0.length) ∧ K true (r.ren fun j => ids.getD j 0) (upd2 h ids hs)) : CallZ P f args h K := by
  subst harg
  refine CallK.know hc.1 fun hl => CallK.drop ?_
  refine FnK.frame hc ids hnd hlen (by omega) hobj hargl ?_
  intro r h'' hp hK
  obtain ⟨k1, k2, k3⟩ := hk r (h''.take h0.length) (by simp; omega) hK
  have hidl : ∀ i, i < h0.length → ids.getD i 0 < h.length := fun i hi => (List.getElem?_eq_some_iff.1 (hobj i _ (List.getElem?_eq_getElem hi)).2).1
  have hρ : ∀ i, i < h0.length → rho h.length ids h0.length i = ids.getD i 0 := fun i hi => if_pos hi
  have hr : r.ren (rho h.length ids h0.length) = r.ren fun j => ids.getD j 0 := by
    cases r with
    | ret v => simp only [CR.lt] at k1; simp only [CR.ren, (ren_congr' _ hρ).1 v k1]
    | pan p => rfl
  have hm : h.mapIdx (mrgO ids h0.length h'' (rho h.length ids h0.length)) = upd2 h ids (h''.take h0.length) := by
    apply List.ext_getElem?
    intro j
    unfold upd2
    rw [List.getElem?_mapIdx, List.getElem?_mapIdx]
    cases hj : h[j]? with
    | none => rfl
    | some o =>
      simp only [Option.map_some, Option.some.injEq, mrgO, updO]
      cases hi : ix ids j with
      | none => rfl
      | some i =>
        simp only
        have hi' : i < h0.length := by
          have := (List.getElem?_eq_some_iff.1 (ix_some hi)).1
          omega
        have hlt : i < h''.length := by omega
        rw [if_pos hi', List.getD_eq_getElem?_getD, List.getD_eq_getElem?_getD, List.getElem?_take_of_lt hi', List.getElem?_eq_getElem hlt, Option.getD_some]
        exact oren_congr hρ (k2 _ (List.mem_of_getElem? (i := i) (by rw [List.getElem?_take_of_lt hi', List.getElem?_eq_getElem hlt])))
  refine ⟨upd2 h ids (h''.take h0.length), (h''.drop h0.length).map (AObj.ren (rho h.length ids h0.length)), by rw [← hm]; rfl, ?_, ?_, by simp [upd2], by rw [hr]; exact k3⟩
  · intro o ho
    have e : (upd2 h ids (h''.take h0.length)).length = h.length := by simp [upd2]
    rw [e]
    obtain ⟨j, hj⟩ := List.mem_iff_getElem?.1 ho
    unfold upd2 at hj
    rw [List.getElem?_mapIdx] at hj
    cases hx : h[j]? with
    | none => rw [hx] at hj; cases hj
    | some o' =>
      rw [hx] at hj
      simp only [Option.map_some, Option.some.injEq, updO] at hj
      subst hj
      cases hi : ix ids j with
      | none => exact hl o' (List.mem_of_getElem? hx)
      | some i =>
        simp only
        have hi' : i < h0.length := by
          have := (List.getElem?_eq_some_iff.1 (ix_some hi)).1
          omega
        have hlt : i < (h''.take h0.length).length := by simp; omega
        rw [List.getD_eq_getElem?_getD, List.getElem?_eq_getElem hlt, Option.getD_some]
        exact olt_ren hidl (k2 _ (List.getElem_mem hlt))
  · have e : (upd2 h ids (h''.take h0.length)).length = h.length := by simp [upd2]
    rw [e, hr]
    cases r with
    | ret v => exact lt_ren hidl v k1
    | pan p => trivial
def oltL (n : Nat) : AHeap → Prop
  | [] => True
  | o :: r => o.lt n ∧ oltL n r
theorem oltL_mem {n : Nat} : ∀ {hs : AHeap}, oltL n hs → ∀ o ∈ hs, o.lt n
  | o :: r, h, o', ho => by
    rcases List.mem_cons.1 ho with h1 | h1
    · subst h1; exact h.1
    · exact oltL_mem h.2 o' h1
theorem RefK.callH {args0 args : List AV} {h0 h : AHeap} {K0 : CR → AHeap → Prop} (hc : RefK P f args0 h0 K0) (ids : List Nat) (hnd : ids.Nodup) (hH : okH h0.length (fun j => ids.getD j 0) h ids h0) (hargl : AV.ltL h0.length args0)
    (harg : args = AV.renL (fun j => ids.getD j 0) args0) {K : Bool → CR → AHeap → Prop}
    (hk : ∀ r hs, K0 r hs → r.lt h0.length ∧ oltL h0.length hs ∧ K true (r.ren fun j => ids.getD j 0) (upd2 h ids hs)) : CallZ P f args h K := by
  obtain ⟨e1, e2⟩ := okH_get hH
  refine RefK.call hc ids hnd e1 (fun i o hi => ?_) hargl harg fun r hs _ hK => ?_
  · obtain ⟨k1, id, k2, k3⟩ := e2 i o hi
    refine ⟨k1, ?_⟩
    rw [List.getD_eq_getElem?_getD, k2]
    exact k3
  · obtain ⟨k1, k2, k3⟩ := hk r hs hK
    exact ⟨k1, oltL_mem k2, k3⟩
theorem refK_of {fn : Func} {c : Code} {args : List AV} {h : AHeap} {K : CR → AHeap → Prop} {N : Nat} (hf : P.funcs[f]? = some fn) (hb : fn.body = some c) (hn : (fn.name == "runtime.NumGoroutine") = false) (hN : fn.ntmps = N) {rs : Array ResultVar} (hrs : fn.results = rs)
    (ha : args.length ≤ N) {n : Nat} (hl : h.length = n) (hv : VcZ true P N n (RetQ P rs (fun x h' => K x (h'.take n))) [.code c] (argE args) h) : RefK P f args h K := by
  subst hl
  exact fnK_of_vc hf hb hn hN ha (Nat.le_refl _) (by rw [hrs]; exact hv)
end
attribute [go_sem] ix updO upd2 List.mapIdx_cons List.mapIdx_nil
end Go.Proofs.YtahamnipffckhaaDoor
