import Derived.Test.YtahamnipffckhaaDoorAm19
set_option linter.unusedVariables false
set_option linter.unusedSimpArgs false
namespace Go.Proofs.YtahamnipffckhaaDoor
open Go Go.RowKit

/-! ### 37. A cut within a region -/
section
variable {P : Program} {N pin : Nat} {Q : AQ}
theorem wpList_app {all : Array Oper} {l2 : List Oper} {k : List It} {cx : Cx} : ∀ (l1 : List Oper) (a : Act) (w : World), wpList P all (QR N pin cx (After P N pin Q (.ops all l2 :: k))) l1 a w → wpList P all (QR N pin cx (After P N pin Q k)) (l1 ++ l2) a w := by
  have ex : ∀ x a w, QR N pin cx (After P N pin Q (.ops all l2 :: k)) x a w → x ≠ .normal → QR N pin cx (After P N pin Q k) x a w := by
    intro x a w h hx
    cases x with
    | normal => exact absurd rfl hx
    | exit id => simpa only [QR, After] using h
    | ret => simpa only [QR, After] using h
    | panic ch => simpa only [QR, After] using h
    | goto l => exact h.elim
    | outgrown => exact h.elim
  intro l1
  induction l1 with
  | nil =>
    intro a w hw
    obtain ⟨ι, I, e, h, h1, h2⟩ := hw
    simp only [After] at h2
    exact h2 cx a w ι I h1
  | cons o l1 ih =>
    intro a w hw
    rw [List.cons_append]
    unfold wpList at hw ⊢
    split at hw
    · rename_i hwt
      rw [if_pos hwt]
      rcases hw with hw | ⟨_, _, _, hf⟩
      · left
        unfold Oper.wp at *
        generalize (execOp a.eval o).run P w = r at *
        cases r with
        | ok n w' =>
          cases n <;> simp only [Oper.upon] at hw ⊢ <;>
            first
              | exact ih _ _ hw
              | exact Calls.mono hw (fun en w'' he => by
                  cases en with
                  | returned v => exact ih _ _ he
                  | panicked ch => exact ex _ _ _ he (by intro h; cases h)
                  | outgrown => obtain ⟨_, _, hf⟩ := he; exact hf.elim)
              | exact Rows.mono hw (fun _ _ he => ih _ _ he)
        | halt x w' => cases x <;> simp only [Oper.upon] at hw ⊢ <;> exact ex _ _ _ hw (by intro h; cases h)
      · exact hf.elim
    · rename_i hwt
      rw [if_neg hwt]
      exact ih _ _ hw
theorem Vc.app {all : Array Oper} {l2 : List Oper} {k k' : List It} {e : AEnv} {h : AHeap} (hv : Vc P N pin Q k' e h) : ∀ l1, k' = .ops all l1 :: .ops all l2 :: k → Vc P N pin Q (.ops all (l1 ++ l2) :: k) e h := by
  induction hv with
  | nil hq => intro l1 hk; cases hk
  | skip hv ih => intro l1 hk; cases hk
  | seq hv ih => intro l1 hk; cases hk
  | cond hc h1 h2 i1 i2 => intro l1 hk; cases hk
  | block hv ih => intro l1 hk; cases hk
  | blk hv ih => intro l1 hk; cases hk
  | exit hp hv ih => intro l1 hk; cases hk
  | ret hq => intro l1 hk; cases hk
  | region hv ih => intro l1 hk; cases hk
  | opsN hv ih => intro l1 hk; cases hk; exact hv
  | guard hg hd hy h1 h2 i1 i2 => intro l1 hk; cases hk; exact .guard hg hd hy (fun hb => i1 hb (_ :: _) rfl) (fun hb => i2 hb _ rfl)
  | guardU hg hd hy hv ih => intro l1 hk; cases hk; exact .guardU hg hd hy (ih _ rfl)
  | opA hg hk' hd hs hv ih => intro l1 hk; cases hk; exact .opA hg hk' hd hs (ih _ rfl)
  | call hg hd ho hf hc hv hp ih => intro l1 hk; cases hk; exact .call hg hd ho hf hc (fun v h' hr => ih v h' hr _ rfl) hp
  | back hr => intro l1 hk; cases hk
  | stop hs ha =>
    intro l1 hk
    cases hk
    cases l1 with
    | nil => simp [isStop] at hs
    | cons o l1 =>
      refine .stop (by simpa [isStop] using hs) ?_
      simp only [After]
      exact fun cx a w ι I hA => wpList_app (o :: l1) a w (by simp only [After] at ha; exact ha cx a w ι I hA)
/-- A cut behind the first n operations of what is left of a region. -/
theorem vz_cutO (n : Nat) (J : AEnv → AHeap → Prop) {all : Array Oper} {l : List Oper} {k : List It} {e : AEnv} {h : AHeap} (h1 : VcZ true P N pin Q (.ops all (l.take n) :: .back J :: .ops all (l.drop n) :: k) e h)
    (h2 : ∀ e h, J e h → VcZ true P N pin Q (.ops all (l.drop n) :: k) e h) : VcZ true P N pin Q (.ops all l :: k) e h := by
  have R : Repl P N pin Q (.back J :: .ops all (l.drop n) :: k) (.ops all (l.drop n) :: k) := by
    refine ⟨fun e h hv => ?_, fun x e h ha => ?_, fun id k' hp => hp⟩
    · rw [vc_back] at hv; exact h2 e h hv
    · cases x with
      | norm => simp only [After] at ha; exact Vc.sound (h2 e h ha)
      | exit id => simp only [After] at ha ⊢; exact ha
      | ret => simp only [After] at ha ⊢; exact ha
      | pan p => simp only [After] at ha ⊢; exact ha
  have := Vc.app (Vc.repl R h1 [.ops all (l.take n)] rfl) (l.take n) rfl
  rwa [List.take_append_drop] at this
end
end Go.Proofs.YtahamnipffckhaaDoor
