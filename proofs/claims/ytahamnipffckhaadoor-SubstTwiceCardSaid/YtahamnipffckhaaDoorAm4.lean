import Derived.Test.YtahamnipffckhaaDoorAm3
set_option linter.unusedVariables false
set_option linter.unusedSimpArgs false
namespace Go.Proofs.YtahamnipffckhaaDoor
open Go Go.RowKit

/-! ### 8. One value more -/
def Post1 (G : Ghost) (ι : Nat → Nat × Nat) (I : Nat → Prop) (h : AHeap) (w : World) (v : AV) (h' : AHeap) (r : Result Value) : Prop :=
  ∃ u w' ι' I', r = .ok u w' ∧ Inv G ι' I' h' w' ∧ Ext I I' ι ι' h.length w w' ∧ h.length ≤ h'.length ∧ arel w' I' ι' v u ∧ v.lt h'.length
section
variable {P : Program} {G : Ghost} {ι : Nat → Nat × Nat} {I : Nat → Prop} {h : AHeap} {w : World}
theorem Post1.same (hI : Inv G ι I h w) {v : AV} {u : Value} (hv : arel w I ι v u) (hl : v.lt h.length) : Post1 G ι I h w v h (.ok u w) :=
  ⟨u, w, ι, I, rfl, hI, Ext.refl _ _ _ _, Nat.le_refl _, hv, hl⟩
theorem Inv.alloc (hI : Inv G ι I h w) (o : AObj) (ob : Obj) (cap : Nat) (hl : o.lt h.length) (hlive : o.live cap = true)
    (ho : ∀ w' ι', (∀ x v, AV.lt h.length x → arel w I ι x v → arel w' I ι' x v) → (∀ p v, rel w I p v → rel w' I p v) → w'.heap[w.heap.size]? = some ob → objRel w' I ι' w.heap.size cap o) :
    Inv G (upd ι h.length (w.heap.size, cap)) I (h ++ [o]) (w.alloc ob) ∧ Ext I I ι (upd ι h.length (w.heap.size, cap)) h.length w (w.alloc ob) := by
  have hb : Below w.heap.size w (w.alloc ob) := (Below.refl _ _).alloc (Nat.le_refl _) _
  obtain ⟨h1, h2⟩ := hI.grow hb (Nat.le_refl _) (fun _ x => x) (fun b x => .inl x)
  have hnew : (w.alloc ob).heap[w.heap.size]? = some ob := by
    show (w.heap.push ob)[w.heap.size]? = some ob
    simp
  have hnI : ¬ I w.heap.size := fun x => Nat.lt_irrefl _ (hI.bound _ x).1
  obtain ⟨h3, h4⟩ := h1.push o w.heap.size cap hl (ho _ _ (fun x v hx hr => arel_ext h2 x v hx hr) (fun p v hr => rel_keep h2.hk h2.hi p v hr) hnew)
    (fun _ => ⟨by simp, hnI, .inr hI.size, fun i oi hi hli => by have := (hI.own i oi hi hli).1; omega⟩)
  exact ⟨h3, h2.trans h4 (Nat.le_refl _)⟩
theorem arelL_map {w' : World} {I' : Nat → Prop} {ι' : Nat → Nat × Nat} {n : Nat} (hk : ∀ x v, AV.lt n x → arel w I ι x v → arel w' I' ι' x v) : ∀ {cs : List AV} {vs : List Value}, AV.ltL n cs → arelL w I ι cs vs → arelL w' I' ι' cs vs
  | [], vs, _, h => by simpa [arelL] using h
  | c :: cs, vs, hl, h => by
    simp only [arelL, AV.ltL] at h hl ⊢
    obtain ⟨u, us, h1, h2, h3⟩ := h
    exact ⟨u, us, h1, hk c u hl.1 h2, arelL_map hk hl.2 h3⟩
theorem relL_map {w' : World} {I' : Nat → Prop} (hk : ∀ p v, rel w I p v → rel w' I' p v) : ∀ {cs : List PV} {vs : List Value}, relL w I cs vs → relL w' I' cs vs
  | [], vs, h => by simpa [relL] using h
  | c :: cs, vs, h => by
    simp only [relL] at h ⊢
    obtain ⟨u, us, h1, h2, h3⟩ := h
    exact ⟨u, us, h1, hk c u h2, relL_map hk h3⟩
theorem Inv.alloc_box (hI : Inv G ι I h w) (T : TypeId) {cs : List AV} {vs : List Value} (hr : arelL w I ι cs vs) (hc : ∀ c ∈ cs, c.cell = true) (hl : AV.ltL h.length cs) :
    Inv G (upd ι h.length (w.heap.size, 0)) I (h ++ [.box cs]) (w.alloc (.cells vs.toArray T)) ∧ Ext I I ι (upd ι h.length (w.heap.size, 0)) h.length w (w.alloc (.cells vs.toArray T)) :=
  hI.alloc (.box cs) _ 0 hl rfl fun w' ι' hk _ hn => ⟨vs, T, hn, hc, arelL_map hk hl hr⟩
theorem box_post (hI : Inv G ι I h w) (T : TypeId) {cs : List AV} {vs : List Value} (hr : arelL w I ι cs vs) (hc : ∀ c ∈ cs, c.cell = true) (hl : AV.ltL h.length cs) :
    Post1 G ι I h w (.ptr h.length 0) (h ++ [.box cs]) (.ok (.pointer (some ⟨w.heap.size, 0, none⟩)) (w.alloc (.cells vs.toArray T))) := by
  obtain ⟨h1, h2⟩ := hI.alloc_box T hr hc hl
  refine ⟨_, _, _, _, rfl, h1, h2, by simp, ?_, by simp [AV.lt]⟩
  simp [arel, upd]
def bxR (v : AV) (h : AHeap) : Option AHeap := if v.solid = true then some (h ++ [.box v.cells]) else none
theorem box_sound (hI : Inv G ι I h w) {t : TypeId} {x : AV} {v : Value} {h' : AHeap} (hx : arel w I ι x v) (hl : x.lt h.length) (hs : bxR x h = some h') : Post1 G ι I h w (.ptr h.length 0) h' ((Instr.box t v).run P w) := by
  unfold bxR at hs
  split at hs <;> cases hs
  rename_i hsol
  obtain ⟨r1, r2, r3⟩ := cells_rel hx hsol hl
  have := box_post hI t r1 r2 r3
  simpa [Instr.box, newVar, newRow] using this
theorem zeroT_run {t : TypeId} {cs : List AV} (hz : zeroT P t = some cs) : ∃ z, (zeroValue t).run P w = .ok z w ∧ szT P t = some z.cells.size ∧ cstL z.cells.toList = some cs := by
  unfold zeroT at hz
  cases hi : P.info? t with
  | none => simp [hi] at hz
  | some i =>
    simp only [hi, Option.bind_some] at hz
    cases hzz : i.zero with
    | none => simp [hzz] at hz
    | some z =>
      simp only [hzz, Option.bind_some] at hz
      split at hz
      · rename_i e
        exact ⟨z, by simp [zeroValue, typeInfo, hi, hzz], by simp [szT, hi, e], hz⟩
      · cases hz
theorem alloc_sound (hI : Inv G ι I h w) {t : TypeId} {cs : List AV} {v : Value} (hz : zeroT P t = some cs) : Post1 G ι I h w (.ptr h.length 0) (h ++ [.box cs]) ((Instr.alloc t true v).run P w) := by
  obtain ⟨z, h1, h2, h3⟩ := zeroT_run (w := w) hz
  obtain ⟨a1, a2, a3⟩ := cstL_rel (w := w) (I := I) (ι := ι) (n := h.length) h3
  have := box_post hI t a1 a3 a2
  simpa [Instr.alloc, newVar, newRow, h1] using this

/-! ### 9. A value that never changes again -/
def frzC (h : AHeap) : AV → Option PV
  | .pv p => some p
  | .nils => some (.sl [])
  | .osl id n => match h[id]? with
    | some (.arr _ _ es) => if n ≤ es.length then some (.sl (es.take n)) else none
    | some (.imm _ es) => if n ≤ es.length then some (.sl (es.take n)) else none
    | _ => none
  | .fn f [] => some (.fn f)
  | _ => none
def frzH (h : AHeap) : AV → AHeap
  | .osl id _ => match h[id]? with
    | some (.arr _ sz es) => h.set id (.imm sz es)
    | _ => h
  | _ => h
theorem frzH_length (h : AHeap) (x : AV) : (frzH h x).length = h.length := by
  unfold frzH
  split
  · split <;> simp
  · rfl
theorem frzC_sound (hI : Inv G ι I h w) {x : AV} {p : PV} {v : Value} (hx : arel w I ι x v) (hf : frzC h x = some p) :
    ∃ I', Inv G ι I' (frzH h x) w ∧ Ext I I' ι ι h.length w w ∧ rel w I' p v := by
  unfold frzC at hf
  split at hf
  · cases hf; simp only [arel] at hx; exact ⟨I, hI, Ext.refl _ _ _ _, hx⟩
  · cases hf; simp only [arel] at hx; subst hx; exact ⟨I, hI, Ext.refl _ _ _ _, by simp [rel]⟩
  · rename_i id n
    simp only [arel] at hx
    split at hf
    · rename_i t sz es ho
      split at hf <;> cases hf
      rename_i hn
      obtain ⟨I', h1, h2⟩ := hI.freeze ho
      refine ⟨I', ?_, h2, ?_⟩
      · simp only [frzH, ho]; exact h1
      · have e : (es.take n).length = n := by simp; omega
        rcases (h1.obj id (.imm sz es) (by rw [List.getElem?_set_self (List.getElem?_eq_some_iff.1 ho).1])).2 with ⟨k0, e0⟩ | ⟨k0, k2, k3, k4, k5⟩
        · subst e0; simp at hn; subst hn
          simp only [rel]
          rcases hx with ⟨hx, _⟩ | ⟨hx, h0⟩
          · subst hx; exact ⟨none, 0, by simp, by simp, by simp, .inl (by simp)⟩
          · exact absurd k0 h0.1
        · rcases hx with ⟨hx, _, h0⟩ | ⟨hx, h0⟩
          · exact absurd h0 k0
          · subst hx
            simp only [rel]
            refine ⟨_, _, by rw [e], by omega, by omega, .inr ⟨_, 0, sz, rfl, k2, relEls_take n k5⟩⟩
    · rename_i sz es ho
      split at hf <;> cases hf
      rename_i hn
      refine ⟨I, ?_, Ext.refl _ _ _ _, ?_⟩
      · simp only [frzH, ho]; exact hI
      · have e : (es.take n).length = n := by simp; omega
        rcases (hI.obj id _ ho).2 with ⟨k0, e0⟩ | ⟨k0, k2, k3, k4, k5⟩
        · subst e0; simp at hn; subst hn
          simp only [rel]
          rcases hx with ⟨hx, _⟩ | ⟨hx, h0⟩
          · subst hx; exact ⟨none, 0, by simp, by simp, by simp, .inl (by simp)⟩
          · exact absurd k0 h0.1
        · rcases hx with ⟨hx, _, h0⟩ | ⟨hx, h0⟩
          · exact absurd h0 k0
          · subst hx
            simp only [rel]
            refine ⟨_, _, by rw [e], by omega, by omega, .inr ⟨_, 0, sz, rfl, k2, relEls_take n k5⟩⟩
    · cases hf
  · cases hf
    simp only [arel, arelL] at hx
    obtain ⟨vs, rfl, rfl⟩ := hx
    exact ⟨I, hI, Ext.refl _ _ _ _, by simp [rel]⟩
  · cases hf
def frzL : AHeap → List AV → Option (List PV × AHeap)
  | h, [] => some ([], h)
  | h, x :: xs => match frzC h x with
    | some p => match frzL (frzH h x) xs with
      | some (ps, h') => some (p :: ps, h')
      | none => none
    | none => none
theorem frzL_sound : ∀ {xs : List AV} {h h' : AHeap} {I : Nat → Prop} {ps : List PV} {vs : List Value}, Inv G ι I h w → arelL w I ι xs vs → AV.ltL h.length xs → frzL h xs = some (ps, h') →
    ∃ I', Inv G ι I' h' w ∧ Ext I I' ι ι h.length w w ∧ relL w I' ps vs ∧ h'.length = h.length
  | [], h, h', I, ps, vs, hI, hx, hl, hf => by
    simp only [frzL] at hf; cases hf
    simp only [arelL] at hx; subst hx
    exact ⟨I, hI, Ext.refl _ _ _ _, by simp [relL], rfl⟩
  | x :: xs, h, h', I, ps, vs, hI, hx, hl, hf => by
    simp only [frzL] at hf
    simp only [arelL, AV.ltL] at hx hl
    obtain ⟨u, us, rfl, x1, x2⟩ := hx
    split at hf
    · rename_i p hp
      split at hf
      · rename_i qs h'' hq
        cases hf
        obtain ⟨I1, a1, a2, a3⟩ := frzC_sound hI x1 hp
        have hlen := frzH_length h x
        obtain ⟨I2, b1, b2, b3, b4⟩ := frzL_sound a1 (arelL_ext a2 _ _ hl.2 x2) (by rw [hlen]; exact hl.2) hq
        refine ⟨I2, b1, a2.trans b2 (by rw [hlen]; exact Nat.le_refl _), ?_, by omega⟩
        simp only [relL]
        exact ⟨u, us, rfl, rel_keep b2.hk b2.hi p u a3, b3⟩
      · cases hf
    · cases hf
def frzV (h : AHeap) : AV → Option (PV × AHeap)
  | .agg cs => match frzL h cs with
    | some (ps, h') => if ps.all PV.scalar = true then some (.agg ps, h') else none
    | none => none
  | .tup vs => none
  | x => match frzC h x with
    | some p => some (p, frzH h x)
    | none => none
theorem frzV_sound (hI : Inv G ι I h w) {x : AV} {p : PV} {h' : AHeap} {v : Value} (hx : arel w I ι x v) (hl : x.lt h.length) (hf : frzV h x = some (p, h')) :
    ∃ I', Inv G ι I' h' w ∧ Ext I I' ι ι h.length w w ∧ rel w I' p v ∧ h'.length = h.length := by
  have gen : (match frzC h x with | some p => some (p, frzH h x) | none => none) = some (p, h') → ∃ I', Inv G ι I' h' w ∧ Ext I I' ι ι h.length w w ∧ rel w I' p v ∧ h'.length = h.length := by
    intro hf
    split at hf <;> cases hf
    rename_i hp
    obtain ⟨I', a1, a2, a3⟩ := frzC_sound hI hx hp
    exact ⟨I', a1, a2, a3, frzH_length h x⟩
  cases x with
  | agg cs =>
    simp only [frzV] at hf
    split at hf
    · rename_i ps h'' hp
      split at hf <;> cases hf
      rename_i hsc
      simp only [arel, AV.lt] at hx hl
      obtain ⟨vs, rfl, _, x2⟩ := hx
      obtain ⟨I', a1, a2, a3, a4⟩ := frzL_sound hI x2 hl hp
      refine ⟨I', a1, a2, ?_, a4⟩
      simp only [rel]
      exact ⟨vs, rfl, by simpa [List.all_eq_true] using hsc, a3⟩
    · cases hf
  | tup vs => cases hf
  | _ => exact gen hf
def frzA : AHeap → List AV → Option (List PV × AHeap)
  | h, [] => some ([], h)
  | h, x :: xs => match frzV h x with
    | some (p, h1) => match frzA h1 xs with
      | some (ps, h') => some (p :: ps, h')
      | none => none
    | none => none
theorem frzA_sound : ∀ {xs : List AV} {h h' : AHeap} {I : Nat → Prop} {ps : List PV} {vs : List Value}, Inv G ι I h w → arelL w I ι xs vs → AV.ltL h.length xs → frzA h xs = some (ps, h') →
    ∃ I', Inv G ι I' h' w ∧ Ext I I' ι ι h.length w w ∧ relL w I' ps vs ∧ h'.length = h.length
  | [], h, h', I, ps, vs, hI, hx, hl, hf => by
    simp only [frzA] at hf; cases hf
    simp only [arelL] at hx; subst hx
    exact ⟨I, hI, Ext.refl _ _ _ _, by simp [relL], rfl⟩
  | x :: xs, h, h', I, ps, vs, hI, hx, hl, hf => by
    simp only [frzA] at hf
    simp only [arelL, AV.ltL] at hx hl
    obtain ⟨u, us, rfl, x1, x2⟩ := hx
    split at hf
    · rename_i p h1 hp
      split at hf
      · rename_i qs h'' hq
        cases hf
        obtain ⟨I1, a1, a2, a3, a4⟩ := frzV_sound hI x1 hl.1 hp
        obtain ⟨I2, b1, b2, b3, b4⟩ := frzA_sound a1 (arelL_ext a2 _ _ hl.2 x2) (by rw [a4]; exact hl.2) hq
        refine ⟨I2, b1, a2.trans b2 (by omega), ?_, by omega⟩
        simp only [relL]
        exact ⟨u, us, rfl, rel_keep b2.hk b2.hi p u a3, b3⟩
      · cases hf
    · cases hf

/-! ### 10. Literals -/
/-- Where part i of a struct or an array lies, and how many cells it has. -/
def plT (P : Program) (t : TypeId) (i : Nat) : Option (Nat × Nat) := match P.info? t, P.underlying t with
  | some it, some (.array _ e) => match it.zero, P.info? e with
    | some _, some ie => some (i * ie.size, ie.size)
    | _, _ => none
  | some it, some (.struct fields) => match it.zero, fields.toList.mapM (fun f => (P.info? f.type).map fun i => (f.offset, i.size)) with
    | some _, some places => places.toArray[i]?
    | _, _ => none
  | _, _ => none
def bldR (P : Program) (t : TypeId) : List AV → List (Nat × AV) → Option (List AV)
  | cs, [] => some cs
  | cs, (i, x) :: r => match plT P t i with
    | some (off, n) => if x.solid = true ∧ x.cells.length = n ∧ off + n ≤ cs.length then bldR P t (splice cs off x.cells) r else none
    | none => none
theorem fold_splice : ∀ (new : List Value) (cells : Array Value) (off : Nat), off + new.length ≤ cells.size → ((new.zipIdx.foldl (fun cs (x : Value × Nat) => cs.setIfInBounds (off + x.2) x.1) cells)).toList = splice cells.toList off new := by
  have gen : ∀ (new : List Value) (k : Nat) (cells : Array Value) (off : Nat), off + k + new.length ≤ cells.size → (((new.zipIdx k).foldl (fun cs (x : Value × Nat) => cs.setIfInBounds (off + x.2) x.1) cells)).toList = splice cells.toList (off + k) new := by
    intro new
    induction new with
    | nil => intro k cells off h; simp [splice]
    | cons v new ih =>
      intro k cells off h
      simp only [List.zipIdx_cons, List.foldl_cons]
      rw [ih (k + 1) _ off (by simp at h ⊢; omega)]
      apply List.ext_getElem?
      intro j
      simp at h
      rw [splice_get (by simp; omega), splice_get (by simp; omega)]
      simp only [Array.toList_setIfInBounds, List.getElem?_set, Array.length_toList, List.length_cons]
      by_cases h1 : j = off + k
      · subst h1
        rw [if_neg (by omega), if_pos rfl, if_pos (by omega), if_pos (⟨by omega, by omega⟩ : off + k ≤ off + k ∧ off + k < off + k + (new.length + 1))]
        simp
      · by_cases h2 : off + (k + 1) ≤ j ∧ j < off + (k + 1) + new.length
        · rw [if_pos h2, if_pos ⟨by omega, by omega⟩]
          obtain ⟨m, rfl⟩ : ∃ m, j = off + k + 1 + m := ⟨j - (off + k + 1), by omega⟩
          rw [show off + k + 1 + m - (off + k) = m + 1 by omega, show off + k + 1 + m - (off + (k + 1)) = m by omega]
          simp
        · rw [if_neg h2, if_neg (fun e => h1 e.symm), if_neg (fun e : off + k ≤ j ∧ j < off + k + (new.length + 1) => h2 ⟨by omega, by omega⟩)]
  intro new cells off h
  simpa using gen new 0 cells off (by simpa using h)
theorem fill_rel {place : Nat → Option (Nat × Nat)} {t : TypeId} (hp : ∀ i off n, plT P t i = some (off, n) → place i = some (off, n)) :
    ∀ {parts : List (Nat × AV)} {rs : List (Nat × Value)} {cs cs' : List AV} {cells : Array Value}, arelL w I ι cs cells.toList → (∀ c ∈ cs, c.cell = true) → AV.ltL h.length cs →
      (∀ i : Nat, parts[i]?.map (·.1) = rs[i]?.map (·.1)) → arelL w I ι (parts.map (·.2)) (rs.map (·.2)) → AV.ltL h.length (parts.map (·.2)) → bldR P t cs parts = some cs' →
      ∃ cells', Instr.fill place cells rs = some cells' ∧ arelL w I ι cs' cells'.toList ∧ (∀ c ∈ cs', c.cell = true) ∧ AV.ltL h.length cs'
  | [], rs, cs, cs', cells, h1, h2, h3, h4, h5, h6, h7 => by
    simp only [bldR] at h7; cases h7
    simp only [List.map_nil, arelL, List.map_eq_nil_iff] at h5; subst h5
    exact ⟨cells, rfl, h1, h2, h3⟩
  | (i, x) :: parts, rs, cs, cs', cells, h1, h2, h3, h4, h5, h6, h7 => by
    simp only [bldR] at h7
    split at h7
    · rename_i off m hf
      split at h7
      · rename_i hc
        obtain ⟨c1, c2, c3⟩ := hc
        cases rs with
        | nil => simp [arelL] at h5
        | cons r rs =>
          obtain ⟨i', v⟩ := r
          have e0 := h4 0
          simp at e0; subst e0
          simp only [List.map_cons, arelL, AV.ltL] at h5 h6
          obtain ⟨u, us, e1, h5a, h5b⟩ := h5
          cases e1
          obtain ⟨r1, r2, r3⟩ := cells_rel h5a c1 h6.1
          have hlen : v.cells.size = x.cells.length := by simpa using arelL_length r1
          have hcl : cells.size = cs.length := by simpa using arelL_length h1
          have hpl := hp i off _ hf
          have hfold := fold_splice v.cells.toList cells off (by simp [hlen]; omega)
          have hfold' : (v.cells.zipIdx.foldl (fun cs (x : Value × Nat) => cs.setIfInBounds (off + x.2) x.1) cells) = (splice cells.toList off v.cells.toList).toArray := by
            rw [← Array.toList_inj]
            rw [← Array.foldl_toList]
            simpa using hfold
          have hsp := arelL_splice (o := off) h1 r1
          obtain ⟨cells', k1, k2, k3, k4⟩ := fill_rel hp (cells := (splice cells.toList off v.cells.toList).toArray) (parts := parts) (rs := rs) (by simpa using hsp) (fun c hc => (splice_mem hc).elim (h2 c) (r2 c)) (AV.ltL_iff.2 fun c hc => (splice_mem hc).elim (fun y => AV.ltL_iff.1 h3 c y) (fun y => AV.ltL_iff.1 r3 c y))
            (fun j => by simpa using h4 (j + 1)) h5b h6.2 h7
          refine ⟨cells', ?_, k2, k3, k4⟩
          have hno : ¬ (v.cells.size ≠ x.cells.length ∨ off + v.cells.size > cells.size) := by omega
          simp only [Instr.fill, hpl]
          rw [if_neg (by simp; omega)]
          rw [← k1]
          congr 1
      · cases h7
    · cases h7
end
end Go.Proofs.YtahamnipffckhaaDoor
