import Derived.WalkKit
set_option linter.unusedVariables false
set_option linter.unusedSimpArgs false
namespace Go.Proofs.YtahamnipffckhaaDoor
open Go

/-! ### 0. The number of draws never falls -/
theorem viewStore_drawn {P : Program} {w w' : World} {at_ : Addr} {u : TypeId} {k : Addr} {v : Value} {b : Bool} {l : List Addr} (h : w.viewStore P at_ u k v b = .ok (w', l)) : w'.drawn = w.drawn := by
  unfold World.viewStore at h
  simp only [bind, Except.bind, pure, Except.pure] at h
  repeat' (first | (cases h; done) | (cases h; rfl) | split at h)
theorem farStore_drawn {P : Program} {w w' : World} {a : Addr} {v : Value} {b : Bool} {l : List Addr} (h : w.farStore P a v b = .ok (w', l)) : w'.drawn = w.drawn := by
  unfold World.farStore at h
  split at h
  · split at h
    · rename_i r hr
      cases h
      exact viewStore_drawn hr
    · cases h
  · cases h
theorem ask_drawn {α : Type} : ∀ (k : Ask α) (w : World), w.drawn ≤ (w.ask k).2.drawn
  | .done a, w => by simp [World.ask]
  | .ask what range k, w => by
    unfold World.ask
    simp only
    split
    · exact ask_drawn (k 0) w
    · refine Nat.le_trans (Nat.le_succ _) ?_
      exact ask_drawn (k _) { w with drawn := w.drawn + 1 }
theorem sys_drawn (w : World) (c : Sys) : w.drawn ≤ (w.sys c).2.drawn := by
  unfold World.sys
  split
  · exact Nat.le_refl _
  · rename_i r os w1 h1 h2
    have := ask_drawn (Kernel.perform c w.os) w
    rw [h2] at this
    exact this
theorem run_drawn {P : Program} {α : Type} : ∀ (s : Sem α) {w w' : World} {a : α}, s.run P w = .ok a w' → w.drawn ≤ w'.drawn := by
  intro s
  induction s with
  | pure a => intro w w' a h; simp only [Sem.run] at h; cases h; exact Nat.le_refl _
  | load m a k ih =>
    intro w w' b h
    simp only [Sem.run] at h
    split at h
    · exact ih _ h
    · split at h
      · exact ih _ h
      · cases h
  | store m a v k ih =>
    intro w w' b h
    have main : (match w.cell? a with
      | some _ => if w.frozen? a then Result.halt (.unsupported (.unsafePointer "a write to bytes that a string shares")) w else k.run P (w.setCell a v)
      | none => match w.farStore P a v (m == Mode.atomic) with
        | .ok (w, _) => k.run P w
        | .error h => .halt h w) = .ok b w' → w.drawn ≤ w'.drawn := by
      intro h
      split at h
      · split at h
        · cases h
        · have h2 := ih h
          have h3 : (w.setCell a v).drawn = w.drawn := by unfold World.setCell; first | rfl | (split <;> rfl)
          omega
      · split at h
        · rename_i w1 l hs
          have := farStore_drawn hs
          have := ih h
          omega
        · cases h
    cases v <;> simp only [Sem.run] at h <;> first | (cases h; done) | exact main h
  | new o k ih => intro w w' b h; simp only [Sem.run] at h; have h2 := ih _ h; exact h2
  | shape r k ih => intro w w' b h; simp only [Sem.run] at h; have h2 := ih _ h; exact h2
  | freeze a n k ih =>
    intro w w' b h
    simp only [Sem.run] at h
    have := ih h
    unfold World.freeze at this
    split at this <;> exact this
  | frozen a k ih => intro w w' b h; simp only [Sem.run] at h; have h2 := ih _ h; exact h2
  | getObj r k ih =>
    intro w w' b h
    simp only [Sem.run] at h
    split at h
    · cases h
    · have h2 := ih _ h; exact h2
    · cases h
  | setObj r o k ih =>
    intro w w' b h
    simp only [Sem.run] at h
    split at h
    · cases h
    · have h2 := ih h; exact h2
    · cases h
  | choose q k ih =>
    intro w w' b h
    simp only [Sem.run] at h
    split at h
    · exact ih _ h
    · have := ih _ h
      simp only at this
      omega
  | sys c k ih =>
    intro w w' b h
    simp only [Sem.run] at h
    exact Nat.le_trans (sys_drawn w c) (ih _ h)
  | program k ih => intro w w' b h; simp only [Sem.run] at h; exact ih _ h
  | mark m k ih => intro w w' b h; simp only [Sem.run] at h; exact ih h
  | halt h => intro w w' b h; simp only [Sem.run] at h; cases h
end Go.Proofs.YtahamnipffckhaaDoor
