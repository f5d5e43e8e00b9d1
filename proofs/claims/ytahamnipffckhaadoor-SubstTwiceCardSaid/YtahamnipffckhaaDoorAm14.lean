import Derived.Test.YtahamnipffckhaaDoorAm13
set_option linter.unusedVariables false
set_option linter.unusedSimpArgs false
namespace Go.Proofs.YtahamnipffckhaaDoor
open Go Go.RowKit

/-! ### 29. One operation, in any state that agrees with the text's on what it looks at -/
section
variable {P : Program} {N pin : Nat}
theorem sop_congr {e e' : AEnv} {h : AHeap} : ∀ {op : Op}, (∀ x ∈ op.operands, opd e x = opd e' x) → sop P e h op = sop P e' h op := by
  intro op hx
  have lst : ∀ l : List Operand, (∀ x ∈ l, opd e x = opd e' x) → l.map (opd e) = l.map (opd e') := fun l hl => List.map_congr_left hl
  have pairs : ∀ ps : Array (Nat × Operand), (∀ x ∈ ps.toList.map (·.2), opd e x = opd e' x) → (ps.toList.map fun p => (p.1, opd e p.2)) = (ps.toList.map fun p => (p.1, opd e' p.2)) := fun ps hp =>
    List.map_congr_left fun p hm => by simp only [hp p.2 (List.mem_map.2 ⟨p, hm, rfl⟩)]
  cases op <;> simp only [Op.operands] at hx <;> simp only [sop]
  case build t ps => rw [pairs ps fun x hm => hx x (by simpa using hm)]
  case buildSlice t n ps => rw [pairs ps fun x hm => hx x (by simpa using hm)]
  case makeFunc fn first captured => rw [lst captured.toList fun x hm => hx x (by simp at hm; simp [hm])]
  case makeMap t r => cases r <;> simp_all
  case slice t x lo hi mx => cases lo <;> cases hi <;> cases mx <;> simp_all
  case call c =>
    obtain ⟨callee, args, tys⟩ := c
    have ha : ∀ x ∈ args.toList, opd e x = opd e' x := fun x hm => hx x (by simp [Call.operands]; exact .inr (by simpa using hm))
    simp only
    split
    · rename_i h1 h2; rw [h1] at ha; rw [ha _ (by simp)]
    · rename_i h1 h2; rw [h1] at ha; rw [ha _ (by simp), ha _ (List.mem_cons_of_mem _ (by simp))]
    · rename_i h1 h2; rw [h1] at ha; rw [ha _ (by simp)]
    · rename_i h1; rw [h1] at ha; rw [ha _ (by simp), lst _ fun x hm => ha x (by simp [hm])]
    · rename_i h1; rw [h1] at ha; rw [ha _ (by simp), lst _ fun x hm => ha x (by simp [hm])]
    · rfl
  all_goals (first | rfl | (simp_all; done))
theorem opA_congr {e e' : AEnv} {h : AHeap} {op : Op} (hx : ∀ x ∈ op.operands, opd e x = opd e' x) : opA P e h op = opA P e' h op := by
  unfold opA
  split
  · rename_i t x y
    rw [hx x (by simp [Op.operands]), hx y (by simp [Op.operands])]
  · rename_i t m k x
    rw [hx m (by simp [Op.operands]), hx k (by simp [Op.operands]), hx x (by simp [Op.operands])]
  · exact sop_congr hx
/-- How an operation stands to the own objects: 0 neither reads nor writes them; 1 reads; 2 writes or makes; 3 makes a variable. -/
def cls : Op → Nat
  | .load _ _ | .lookup _ _ _ _ => 1
  | .makeMap _ _ | .mapUpdate _ _ _ _ => 2
  | .box _ _ | .buildSlice _ _ _ | .store _ _ _ => 2
  | .call ⟨.builtin .append, _, _⟩ | .call ⟨.builtin .clear, _, _⟩ => 2
  | .alloc _ => 3
  | _ => 0
theorem opA_free {e : AEnv} {h h' : AHeap} {v : AV} {op : Op} (hc : cls op = 0) (hs : opA P e h op = some (v, h')) : h' = h ∧ ∀ h2, opA P e h2 op = some (v, h2) := by
  have r1 : ∀ {o : Option AV}, ret1 o h = some (v, h') → h' = h ∧ ∀ h2, ret1 o h2 = some (v, h2) := fun {o} ho => by
    cases o <;> simp only [ret1] at ho ⊢ <;> cases ho
    exact ⟨rfl, fun _ => rfl⟩
  cases op <;> (try (simp [cls] at hc; done)) <;> simp only [opA, sop] at hs ⊢ <;> (try (exact r1 hs)) <;> (try (cases hs; done))
  case move x => cases hs; exact ⟨rfl, fun _ => rfl⟩
  case assign x => cases hs; exact ⟨rfl, fun _ => rfl⟩
  case pick c a b =>
    split at hs
    · cases hs
      rename_i hx
      refine ⟨rfl, fun h2 => ?_⟩
      simp only [hx]
    · cases hs
  case makeFunc f fs cs =>
    split at hs
    · rename_i hf; obtain ⟨k1, k2⟩ := r1 hs; exact ⟨k1, fun h2 => by rw [if_pos hf]; exact k2 h2⟩
    · cases hs
  case slice t x lo hi mx =>
    cases mx
    · simp only [sop] at hs ⊢; exact r1 hs
    · simp only [sop] at hs; cases hs
  case call c =>
    obtain ⟨callee, args, tys⟩ := c
    simp only at hs ⊢
    split at hs
    · exact r1 hs
    · simp [cls] at hc
    · simp [cls] at hc
    · exact r1 hs
    · exact r1 hs
    · cases hs
theorem ldR_lt {t : TypeId} {x y : AV} {h : AHeap} (hl : ldR P t x h = some y) : x.lt h.length := by
  unfold ldR at hl
  split at hl
  · split at hl
    · rename_i hb; exact (List.getElem?_eq_some_iff.1 hb).1
    · cases hl
  · trivial
  · split at hl
    · rename_i hb; exact (List.getElem?_eq_some_iff.1 hb).1
    · rename_i hb; exact (List.getElem?_eq_some_iff.1 hb).1
    · cases hl
  · cases hl
theorem ldR_app {t : TypeId} {x : AV} {h j : AHeap} (hx : x.lt h.length) : ldR P t x (h ++ j) = ldR P t x h := by
  have g : ∀ {id : Nat}, id < h.length → (h ++ j)[id]? = h[id]? := fun hi => List.getElem?_append_left hi
  cases x <;> simp only [AV.lt] at hx <;> first | rfl | simp only [ldR, g hx]
theorem mpOf_lt {x : AV} {h : AHeap} {y : Nat × (Key → Option AV)} (hl : mpOf x h = some y) : x.lt h.length := by
  unfold mpOf at hl
  split at hl
  · split at hl
    · rename_i hb; exact (List.getElem?_eq_some_iff.1 hb).1
    · cases hl
  · cases hl
theorem mpOf_app {x : AV} {h j : AHeap} (hx : x.lt h.length) : mpOf x (h ++ j) = mpOf x h := by
  cases x <;> simp only [AV.lt] at hx <;> first | rfl | simp only [mpOf, List.getElem?_append_left hx]
theorem lkR_app {t : TypeId} {x k : AV} {ok : Bool} {h j : AHeap} (hx : x.lt h.length) : lkR P t x k ok (h ++ j) = lkR P t x k ok h := by
  unfold lkR
  rw [mpOf_app hx]
theorem lkR_lt {t : TypeId} {x k y : AV} {ok : Bool} {h : AHeap} (hl : lkR P t x k ok h = some y) : x.lt h.length := by
  unfold lkR at hl
  split at hl
  · split at hl
    · split at hl
      · rename_i hn
        unfold isNilm at hn
        split at hn
        · trivial
        · cases hn
      · split at hl
        · rename_i hm; exact mpOf_lt hm
        · cases hl
    · cases hl
  · cases hl
theorem frzC_nil {x : AV} {p : PV} (hf : frzC [] x = some p) (h : AHeap) : frzC h x = some p ∧ frzH h x = h := by
  unfold frzC at hf
  split at hf
  · cases hf; exact ⟨rfl, rfl⟩
  · cases hf; exact ⟨rfl, rfl⟩
  · simp at hf
  · cases hf; exact ⟨rfl, rfl⟩
  · cases hf
theorem frzL_nil : ∀ {xs : List AV} {ps : List PV} {h1 : AHeap}, frzL [] xs = some (ps, h1) → h1 = [] ∧ ∀ h, frzL h xs = some (ps, h)
  | [], ps, h1, hf => by simp only [frzL] at hf ⊢; cases hf; exact ⟨rfl, fun _ => rfl⟩
  | x :: xs, ps, h1, hf => by
    simp only [frzL] at hf ⊢
    split at hf
    · rename_i p hp
      have e0 := (frzC_nil hp []).2
      rw [e0] at hf
      split at hf <;> cases hf
      rename_i ps' hq
      obtain ⟨k1, k2⟩ := frzL_nil hq
      refine ⟨k1, fun h => ?_⟩
      rw [(frzC_nil hp h).1, (frzC_nil hp h).2, k2 h]
    · cases hf
theorem frzV_nil {x : AV} {p : PV} {h1 : AHeap} (hf : frzV [] x = some (p, h1)) : h1 = [] ∧ ∀ h, frzV h x = some (p, h) := by
  have gen : (match frzC [] x with | some p => some (p, frzH [] x) | none => none) = some (p, h1) → h1 = [] ∧ ∀ h, (match frzC h x with | some p => some (p, frzH h x) | none => none) = some (p, h) := by
    intro hf
    split at hf <;> cases hf
    rename_i hp
    exact ⟨(frzC_nil hp []).2, fun h => by rw [(frzC_nil hp h).1, (frzC_nil hp h).2]⟩
  cases x with
  | agg cs =>
    simp only [frzV] at hf ⊢
    split at hf
    · rename_i ps h2 hp
      obtain ⟨k1, k2⟩ := frzL_nil hp
      split at hf <;> cases hf
      rename_i ha
      exact ⟨k1, fun h => by rw [k2 h]; simp only [if_pos ha]⟩
    · cases hf
  | tup vs => cases hf
  | _ => exact gen hf
theorem frzA_nil : ∀ {xs : List AV} {ps : List PV} {h1 : AHeap}, frzA [] xs = some (ps, h1) → h1 = [] ∧ ∀ h, frzA h xs = some (ps, h)
  | [], ps, h1, hf => by simp only [frzA] at hf ⊢; cases hf; exact ⟨rfl, fun _ => rfl⟩
  | x :: xs, ps, h1, hf => by
    simp only [frzA] at hf ⊢
    split at hf
    · rename_i p h2 hp
      obtain ⟨rfl, e1⟩ := frzV_nil hp
      split at hf <;> cases hf
      rename_i ps' hq
      obtain ⟨k1, k2⟩ := frzA_nil hq
      exact ⟨k1, fun h => by rw [e1 h]; simp only [k2 h]⟩
    · cases hf
end
end Go.Proofs.YtahamnipffckhaaDoor
