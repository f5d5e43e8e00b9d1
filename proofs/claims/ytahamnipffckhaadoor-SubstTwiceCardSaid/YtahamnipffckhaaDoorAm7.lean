import Derived.Test.YtahamnipffckhaaDoorAm6
set_option linter.unusedVariables false
set_option linter.unusedSimpArgs false
namespace Go.Proofs.YtahamnipffckhaaDoor
open Go Go.RowKit

/-! ### 14. Structs and slices that are written out; make -/
section
variable {P : Program} {G : Ghost} {ι : Nat → Nat × Nat} {I : Nat → Prop} {h : AHeap} {w : World}
def bR (P : Program) (t : TypeId) (parts : List (Nat × AV)) : Option AV := match zeroT P t with
  | some cs => if (P.built t []).isSome = true then match bldR P t cs parts with
    | some cs' => some (mkAgg cs')
    | none => none
    else none
  | none => none
theorem built_place {t : TypeId} (hb : (P.built t []).isSome = true) : ∃ (z : Value) (place : Nat → Option (Nat × Nat)), (∀ w : World, (zeroValue t).run P w = .ok z w) ∧ (∀ parts, P.built t parts = Instr.fill place z.cells parts) ∧ ∀ i off n, plT P t i = some (off, n) → place i = some (off, n) := by
  unfold Program.built at hb
  cases hi : P.info? t with
  | none => simp [hi] at hb
  | some it =>
    cases hu : P.underlying t with
    | none => simp [hi, hu] at hb
    | some d =>
      cases hz : it.zero with
      | none => cases d <;> simp [hi, hu, hz] at hb
      | some z =>
        have hrun : ∀ w : World, (zeroValue t).run P w = .ok z w := fun w => by simp [zeroValue, typeInfo, hi, hz]
        cases d <;> try (simp [hi, hu] at hb; done)
        case array n e =>
          cases hie : P.info? e with
          | none => simp [hi, hu, hz, hie] at hb
          | some ie => exact ⟨z, fun i => some (i * ie.size, ie.size), hrun, fun parts => by simp [Program.built, hi, hu, hz, hie], fun i off m hp => by simpa [plT, hi, hu, hz, hie] using hp⟩
        case struct fields =>
          cases hp : fields.toList.mapM (fun f => (P.info? f.type).map fun i => (f.offset, i.size)) with
          | none => simp [hi, hu, hz, hp] at hb
          | some places => exact ⟨z, (places.toArray[·]?), hrun, fun parts => by simp [Program.built, hi, hu, hz, hp], fun i off m hq => by simpa [plT, hi, hu, hz, hp] using hq⟩
theorem bR_sound {t : TypeId} {parts : List (Nat × AV)} {rs : Array (Nat × Value)} {y : AV} (h1 : ∀ i : Nat, parts[i]?.map (·.1) = rs.toList[i]?.map (·.1)) (h2 : arelL w I ι (parts.map (·.2)) (rs.toList.map (·.2))) (h3 : AV.ltL h.length (parts.map (·.2))) (hf : bR P t parts = some y) :
    ∃ u, (Instr.build t rs).run P w = .ok u w ∧ arel w I ι y u ∧ y.lt h.length := by
  unfold bR at hf
  split at hf
  case h_2 => cases hf
  rename_i cs hz
  split at hf
  case isFalse => cases hf
  rename_i hb
  split at hf <;> cases hf
  rename_i cs' hc
  obtain ⟨z, place, b1, b2, b3⟩ := built_place hb
  obtain ⟨z', z1, z2, z3⟩ := zeroT_run (w := w) hz
  have hzz : z = z' := by have := (b1 w).symm.trans z1; injection this
  subst hzz
  obtain ⟨a1, a2, a3⟩ := cstL_rel (w := w) (I := I) (ι := ι) (n := h.length) z3
  obtain ⟨cells', k1, k2, k3, k4⟩ := fill_rel (h := h) b3 (cells := z.cells) a1 a3 a2 h1 h2 h3 hc
  obtain ⟨m1, m2⟩ := mkAgg_rel k2 k3 k4
  exact ⟨.agg cells', run_build w t rs cells' (by rw [b2]; exact k1), by simpa using m1, m2⟩
def frzEls (sz : Nat) : AHeap → List AV → Option (List (List PV) × AHeap)
  | h, [] => some ([], h)
  | h, x :: xs => if x.solid = true then match frzL h x.cells with
    | some (ps, h1) => if ps.length = sz then match frzEls sz h1 xs with
      | some (es, h') => some (ps :: es, h')
      | none => none
      else none
    | none => none
    else none
theorem frzC_scalar {x : AV} {p : PV} (hc : x.cell = true) (hf : frzC h x = some p) : p.scalar = true := by
  unfold frzC at hf
  split at hf <;> (try cases hf) <;> (try rfl)
  · simpa [AV.cell] using hc
  · split at hf
    · split at hf <;> cases hf; rfl
    · split at hf <;> cases hf; rfl
    · cases hf
theorem frzL_scalar : ∀ {xs : List AV} {h h' : AHeap} {ps : List PV}, (∀ c ∈ xs, c.cell = true) → frzL h xs = some (ps, h') → ∀ p ∈ ps, p.scalar = true
  | [], h, h', ps, _, hf, p, hp => by simp only [frzL] at hf; cases hf; simp at hp
  | x :: xs, h, h', ps, hc, hf, p, hp => by
    simp only [frzL] at hf
    split at hf
    · rename_i q hq
      split at hf <;> cases hf
      rename_i qs h'' hqs
      rcases List.mem_cons.1 hp with e | e
      · subst e; exact frzC_scalar (hc x (by simp)) hq
      · exact frzL_scalar (fun c hc' => hc c (by simp [hc'])) hqs p e
    · cases hf
theorem frzEls_sound {sz : Nat} : ∀ {xs : List AV} {h h' : AHeap} {I : Nat → Prop} {es : List (List PV)} {vs : List Value}, Inv G ι I h w → arelL w I ι xs vs → AV.ltL h.length xs → frzEls sz h xs = some (es, h') →
    ∃ I', Inv G ι I' h' w ∧ Ext I I' ι ι h.length w w ∧ h'.length = h.length ∧ es.length = vs.length ∧ (∀ v ∈ vs, v.cells.size = sz) ∧ arrRel w I' sz es (vs.flatMap fun v => v.cells.toList)
  | [], h, h', I, es, vs, hI, hx, hl, hf => by
    simp only [frzEls] at hf; cases hf
    simp only [arelL] at hx; subst hx
    exact ⟨I, hI, Ext.refl _ _ _ _, rfl, rfl, by simp, trivial⟩
  | x :: xs, h, h', I, es, vs, hI, hx, hl, hf => by
    simp only [frzEls] at hf
    simp only [arelL, AV.ltL] at hx hl
    obtain ⟨u, us, rfl, x1, x2⟩ := hx
    split at hf
    case isFalse => cases hf
    rename_i hsol
    split at hf
    case h_2 => cases hf
    rename_i ps h1 hps
    split at hf
    case isFalse => cases hf
    rename_i hsz
    split at hf <;> cases hf
    rename_i es' h'' hes
    obtain ⟨r1, r2, r3⟩ := cells_rel x1 hsol hl.1
    obtain ⟨I1, a1, a2, a3, a4⟩ := frzL_sound hI r1 r3 hps
    obtain ⟨I2, b1, b2, b3, b4, b5, b6⟩ := frzEls_sound a1 (arelL_ext a2 _ _ hl.2 x2) (by rw [a4]; exact hl.2) hes
    have hu : u.cells.toList.length = sz := (relL_length a3).trans hsz
    refine ⟨I2, b1, a2.trans b2 (by omega), by omega, by simp [b4], fun v hv => ?_, ?_⟩
    · rcases List.mem_cons.1 hv with e | e
      · subst e; simpa using hu
      · exact b5 v e
    · simp only [List.flatMap_cons, arrRel]
      refine ⟨hsz, by simp only [List.length_append]; omega, frzL_scalar r2 hps, ?_, ?_⟩
      · rw [← hu, List.take_left]; exact relL_keep b2.hk b2.hi _ _ a3
      · rw [← hu, List.drop_left, hu]; exact b6
theorem fill_seq {sz : Nat} : ∀ (rs : List (Nat × Value)) (k : Nat) (cells : Array Value), rs.map (·.1) = List.range' k rs.length → (∀ v ∈ rs.map (·.2), v.cells.size = sz) → (k + rs.length) * sz ≤ cells.size →
    ∃ cells', Instr.fill (fun i => some (i * sz, sz)) cells rs = some cells' ∧ cells'.toList = cells.toList.take (k * sz) ++ (rs.map (·.2)).flatMap (fun v => v.cells.toList) ++ cells.toList.drop ((k + rs.length) * sz)
  | [], k, cells, _, _, _ => ⟨cells, rfl, by simp⟩
  | (i, v) :: rs, k, cells, h1, h2, h3 => by
    simp only [List.map_cons, List.length_cons, List.range'_succ, List.cons.injEq] at h1 h2 h3
    obtain ⟨rfl, h1⟩ := h1
    have hv := h2 v (by simp)
    have e1 : (i + (rs.length + 1)) * sz = i * sz + sz + rs.length * sz := by simp [Nat.add_mul]; omega
    have e2 : (i + 1 + rs.length) * sz = i * sz + sz + rs.length * sz := by simp [Nat.add_mul]
    have e3 : (i + 1) * sz = i * sz + sz := by simp [Nat.add_mul]
    have hfold := fold_splice v.cells.toList cells (i * sz) (by simp [hv]; omega)
    have hfold' : (v.cells.zipIdx.foldl (fun cs (x : Value × Nat) => cs.setIfInBounds (i * sz + x.2) x.1) cells) = (splice cells.toList (i * sz) v.cells.toList).toArray := by
      rw [← Array.toList_inj, ← Array.foldl_toList]
      simpa using hfold
    have hlen : (splice cells.toList (i * sz) v.cells.toList).length = cells.size := by rw [splice_length (by simp [hv]; omega)]; simp
    obtain ⟨cells', k1, k2⟩ := fill_seq rs (i + 1) (splice cells.toList (i * sz) v.cells.toList).toArray h1 (fun x hx => h2 x (by simp [hx])) (by simp [hlen]; omega)
    refine ⟨cells', ?_, ?_⟩
    · simp only [Instr.fill]
      rw [if_neg (by simp [hv]; omega), ← k1]
      congr 1
    · rw [k2, e2]
      simp only [List.map_cons, List.flatMap_cons, List.length_cons]
      rw [e1, e3]
      have t1 : (splice cells.toList (i * sz) v.cells.toList).take (i * sz + sz) = cells.toList.take (i * sz) ++ v.cells.toList := by
        apply List.ext_getElem?
        intro j
        have hcl : cells.toList.length = cells.size := by simp
        have hvl : v.cells.toList.length = sz := by simpa using hv
        rw [List.getElem?_take, splice_get (by simp [hv]; omega), List.getElem?_append, List.length_take, hcl, hvl]
        by_cases c1 : j < i * sz
        · rw [if_pos (by omega), if_neg (by omega), if_pos (by omega), List.getElem?_take, if_pos c1]
        · by_cases c2 : j < i * sz + sz
          · rw [if_pos c2, if_pos (by omega), if_neg (by omega)]; congr 1; omega
          · rw [if_neg c2, if_neg (by omega), List.getElem?_eq_none (by omega)]
      have t2 : (splice cells.toList (i * sz) v.cells.toList).drop (i * sz + sz + rs.length * sz) = cells.toList.drop (i * sz + sz + rs.length * sz) := by
        apply List.ext_getElem?
        intro j
        rw [List.getElem?_drop, splice_get (by simp [hv]; omega), List.getElem?_drop, if_neg (by simp [hv]; omega)]
      rw [t1, t2]
      simp
def bslR (P : Program) (t : TypeId) (len : Nat) (parts : List (Nat × AV)) (h : AHeap) : Option (AV × AHeap) := match slS P t with
  | some (e, sz) => if 0 < sz ∧ len * sz ≤ 16777216 ∧ parts.map (·.1) = List.range' 0 len ∧ parts.length = len then match zeroT P e, frzEls sz h (parts.map (·.2)) with
    | some _, some (es, h') => some (.osl h'.length len, h' ++ [.arr e sz es])
    | _, _ => none
    else none
  | none => none
theorem bslR_sound (hI : Inv G ι I h w) {t : TypeId} {len : Nat} {parts : List (Nat × AV)} {rs : Array (Nat × Value)} {y : AV} {h' : AHeap} (h1 : parts.map (·.1) = rs.toList.map (·.1)) (h2 : arelL w I ι (parts.map (·.2)) (rs.toList.map (·.2))) (h3 : AV.ltL h.length (parts.map (·.2))) (hf : bslR P t len parts h = some (y, h')) :
    Post1 G ι I h w y h' ((Instr.buildSlice t len rs).run P w) := by
  unfold bslR at hf
  split at hf
  case h_2 => cases hf
  rename_i e sz hs
  obtain ⟨hu, hz⟩ := slS_spec hs
  split at hf
  case isFalse => cases hf
  rename_i hc
  obtain ⟨c1, c2, c3, c4⟩ := hc
  split at hf <;> cases hf
  rename_i zc es h1' hzz hes
  obtain ⟨I1, a1, a2, a3, a4, a5, a6⟩ := frzEls_sound hI h2 h3 hes
  obtain ⟨z, z1, z2, _⟩ := zeroT_run (w := w) hzz
  have hrl : rs.toList.length = len := by
    have := congrArg List.length h1
    simp only [List.length_map] at this
    omega
  have hzc : z.cells.size = sz := by rw [hz] at z2; simpa using z2.symm
  have hnum : ((Array.range (len * sz)).map (z.cells[· % z.cells.size]!)).size = len * sz := by simp
  obtain ⟨cells', k1, k2⟩ := fill_seq (sz := sz) rs.toList 0 ((Array.range (len * sz)).map (z.cells[· % z.cells.size]!)) (by rw [← h1, c3, hrl]) a5 (by rw [hnum, Nat.zero_add, hrl]; exact Nat.le_refl _)
  have k3 : cells'.toList = (rs.toList.map (·.2)).flatMap (fun v => v.cells.toList) := by
    rw [k2, Nat.zero_mul, List.take_zero, List.nil_append, Nat.zero_add, hrl, List.drop_of_length_le (by rw [Array.length_toList, hnum]; exact Nat.le_refl _), List.append_nil]
  have hesl : es.length = len := by rw [a4, List.length_map, hrl]
  have hcl : cells'.toList.length = len * sz := by
    have := arrRel_length a6
    rw [← k3, hesl] at this
    rw [k2]
    simp only [List.length_append, List.length_take, List.length_drop, Array.length_toList, hnum, Nat.zero_mul, Nat.zero_add, hrl]
    have key : ∀ (vs : List Value), (∀ v ∈ vs, v.cells.size = sz) → (vs.flatMap fun v => v.cells.toList).length = vs.length * sz := by
      intro vs
      induction vs with
      | nil => intro _; simp
      | cons v vs ih => intro hv; simp only [List.flatMap_cons, List.length_append, List.length_cons, ih (fun x hx => hv x (by simp [hx])), Array.length_toList, hv v (by simp), Nat.add_mul]; omega
    rw [key _ a5]
    simp [hrl]
  have hrun : (Instr.buildSlice t len rs).run P w = .ok (.slice (some ⟨w.heap.size, 0, none⟩) len len) (w.alloc (.cells cells' e)) := by
    by_cases h0 : len * sz = 0
    · have hl0 : len = 0 := by
        rcases Nat.mul_eq_zero.1 h0 with h | h
        · exact h
        · omega
      subst hl0
      have hrs : rs = #[] := by
        have : rs.toList = [] := List.eq_nil_of_length_eq_zero hrl
        simpa using this
      subst hrs
      have hce : cells' = #[] := by
        have : cells'.toList = [] := List.eq_nil_of_length_eq_zero (by simpa using hcl)
        simpa using this
      subst hce
      simp [Instr.buildSlice, run_underlying hu, run_sizeOf' hz, newRow, Instr.fill, Array.range_zero']
    · simp [Instr.buildSlice, run_underlying hu, run_sizeOf' hz, h0, z1, k1, newRow]
      omega
  rw [hrun]
  have hb : Below w.heap.size w (w.alloc (.cells cells' e)) := (Below.refl _ _).alloc (Nat.le_refl _) _
  obtain ⟨p1, p2⟩ := a1.alloc (.arr e sz es) (.cells cells' e) (len + 1) trivial (by simp [AObj.live]) fun w' ι' _ hk hn => by
    have harr : arrRel w' I1 sz es cells'.toList := by
      rw [k3]
      have key : ∀ (es : List (List PV)) (vs : List Value), arrRel w I1 sz es vs → arrRel w' I1 sz es vs := by
        intro es
        induction es with
        | nil => intro _ _; trivial
        | cons c es ih => intro vs ⟨q1, q0, q2, q3, q4⟩; exact ⟨q1, q0, q2, relL_map hk q3, ih _ q4⟩
      exact key _ _ a6
    have hle : len ≤ len * sz := Nat.le_mul_of_pos_right _ c1
    exact .inr ⟨by omega, cells'.toList, by simpa using hn, by simpa using hcl, by omega, by simp only [maxLen]; omega, by omega, harr⟩
  rw [a3] at p2
  refine ⟨_, _, _, _, rfl, p1, a2.trans (by rw [← a3] at p2; exact p2) (by omega), by simp; omega, ?_, by simp [AV.lt]⟩
  simp only [arel, upd_same]
  exact .inr ⟨by simp, by simp, by simp⟩
end
end Go.Proofs.YtahamnipffckhaaDoor
