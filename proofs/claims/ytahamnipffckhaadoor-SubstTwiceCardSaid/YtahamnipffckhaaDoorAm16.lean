import Derived.Test.YtahamnipffckhaaDoorAm15
set_option linter.unusedVariables false
set_option linter.unusedSimpArgs false
namespace Go.Proofs.YtahamnipffckhaaDoor
open Go Go.RowKit

/-! ### 31. Any order -/
def Wan (all : Array Oper) (e : AEnv) (o : Oper) : Prop := o.guard = none ∨ ∃ j b, o.guard = some (j, b) ∧ yld all e j = .pv (.bool b)
inductive TOp (P : Program) (all : Array Oper) (e : AEnv) (h : AHeap) (o : Oper) : AV → AHeap → Prop
  | skip {j b b'} : o.guard = some (j, b) → yld all e j = .pv (.bool b') → b' ≠ b → TOp P all e h o (.tup []) h
  | skipU {j b} : o.guard = some (j, b) → yld all e j = .tup [] → TOp P all e h o (.tup []) h
  | run {v h'} : Wan all e o → kind o.op = 0 → opA P e h o.op = some (v, h') → TOp P all e h o v h'
  | call {x args argTypes f ps r} : Wan all e o → o.op = .call { callee := .value x, args, argTypes } → fnOf (opd e x) = some (f, []) → frzA [] (args.toList.map (opd e)) = some (ps, []) → Pure P f ps r → TOp P all e h o (.pv r) h
section
variable {P : Program} {N pin : Nat}
theorem TOp.agree {all : Array Oper} {e e' : AEnv} {h h1 : AHeap} {o : Oper} {v : AV} (hT : TOp P all e h o v h1) (hx : ∀ x ∈ o.op.operands, opd e' x = opd e x) (hg : ∀ j b, o.guard = some (j, b) → yld all e' j = yld all e j) : TOp P all e' h o v h1 := by
  have wan : Wan all e o → Wan all e' o := fun hw => hw.imp id fun ⟨j, b, k1, k2⟩ => ⟨j, b, k1, by rw [hg j b k1]; exact k2⟩
  cases hT with
  | skip k1 k2 k3 => exact .skip k1 (by rw [hg _ _ k1]; exact k2) k3
  | skipU k1 k2 => exact .skipU k1 (by rw [hg _ _ k1]; exact k2)
  | run k1 k2 k3 => exact .run (wan k1) k2 (by rw [opA_congr hx]; exact k3)
  | call k1 k2 k3 k4 k5 =>
    rename_i x args argTypes f ps r
    rw [k2] at hx
    have ha : args.toList.map (opd e') = args.toList.map (opd e) := List.map_congr_left fun y hy => hx y (by simp [Op.operands, Call.operands]; exact .inr (by simpa using hy))
    exact .call (wan k1) k2 (by rw [hx x (by simp [Op.operands, Call.operands])]; exact k3) (by rw [ha]; exact k4) k5
theorem TOp.free {all : Array Oper} {e : AEnv} {h h1 : AHeap} {o : Oper} {v : AV} (hT : TOp P all e h o v h1) (hc : cls o.op = 0) : h1 = h ∧ ∀ h2, TOp P all e h2 o v h2 := by
  cases hT with
  | skip k1 k2 k3 => exact ⟨rfl, fun h2 => .skip k1 k2 k3⟩
  | skipU k1 k2 => exact ⟨rfl, fun h2 => .skipU k1 k2⟩
  | run k1 k2 k3 =>
    obtain ⟨q1, q2⟩ := opA_free hc k3
    exact ⟨q1, fun h2 => .run k1 k2 (q2 h2)⟩
  | call k1 k2 k3 k4 k5 => exact ⟨rfl, fun h2 => .call k1 k2 k3 k4 k5⟩
theorem TOp.look {all : Array Oper} {e : AEnv} {h h1 : AHeap} {o : Oper} {v : AV} (hT : TOp P all e h o v h1) (hc : cls o.op = 1) :
    h1 = h ∧ ∀ h2, ((∃ j, h2 = h ++ j) ∨ ((∃ j, h = h2 ++ j) ∧ ∀ x ∈ o.op.operands, (opd e x).lt h2.length)) → TOp P all e h2 o v h2 := by
  cases hT with
  | skip k1 k2 k3 => exact ⟨rfl, fun h2 _ => .skip k1 k2 k3⟩
  | skipU k1 k2 => exact ⟨rfl, fun h2 _ => .skipU k1 k2⟩
  | run k1 k2 k3 =>
    obtain ⟨dst, op, type, pos, after, guard⟩ := o
    simp only at hc k2 k3
    cases op <;> (try (simp [cls] at hc; done))
    · rename_i t x
      simp only [opA, sop] at k3
      cases hl : ldR P t (opd e x) h with
      | none => rw [hl] at k3; cases k3
      | some y =>
        rw [hl] at k3
        simp only [ret1] at k3
        cases k3
        refine ⟨rfl, fun h2 hh => .run k1 k2 ?_⟩
        have : ldR P t (opd e x) h2 = some v := by
          rcases hh with ⟨j, rfl⟩ | ⟨⟨j, rfl⟩, hlt⟩
          · rw [ldR_app (ldR_lt hl)]; exact hl
          · rw [ldR_app (hlt x (by simp [Op.operands]))] at hl; exact hl
        simp only [opA, sop, this, ret1]
    · rename_i t x k ok
      simp only [opA, sop] at k3
      cases hl : lkR P t (opd e x) (opd e k) ok h with
      | none => rw [hl] at k3; cases k3
      | some y =>
        rw [hl] at k3
        simp only [ret1] at k3
        cases k3
        refine ⟨rfl, fun h2 hh => .run k1 k2 ?_⟩
        have : lkR P t (opd e x) (opd e k) ok h2 = some v := by
          rcases hh with ⟨j, rfl⟩ | ⟨⟨j, rfl⟩, hlt⟩
          · rw [lkR_app (lkR_lt hl)]; exact hl
          · rw [lkR_app (hlt x (by simp [Op.operands]))] at hl; exact hl
        simp only [opA, sop, this, ret1]
    · rename_i c
      obtain ⟨callee, args, tys⟩ := c
      cases callee <;> (try (simp [cls] at hc; done))
      rename_i b
      cases b <;> simp [cls] at hc
  | call k1 k2 k3 k4 k5 => rw [k2] at hc; simp [cls] at hc
theorem TOp.make {all : Array Oper} {e : AEnv} {h h1 : AHeap} {o : Oper} {v : AV} (hT : TOp P all e h o v h1) (hc : cls o.op = 3) : ∃ j, h1 = h ++ j := by
  cases hT with
  | skip k1 k2 k3 => exact ⟨[], by simp⟩
  | skipU k1 k2 => exact ⟨[], by simp⟩
  | run k1 k2 k3 =>
    obtain ⟨dst, op, type, pos, after, guard⟩ := o
    simp only at hc k2 k3
    cases op <;> (try (simp [cls] at hc; done))
    · rename_i t
      simp only [opA, sop] at k3
      split at k3 <;> cases k3
      exact ⟨_, rfl⟩
    · rename_i c
      obtain ⟨callee, args, tys⟩ := c
      cases callee <;> (try (simp [cls] at hc; done))
      rename_i b
      cases b <;> simp [cls] at hc
  | call k1 k2 k3 k4 k5 => exact ⟨[], by simp⟩
theorem wp_mono2 {o : Oper} {a : Act} {w : World} {K K' : Act → World → Prop} {Q Q' : Exit → Act → World → Prop} (hK : ∀ a w, K a w → K' a w) (hQ : ∀ c a w, ¬ Q (.panic c) a w) (ho : ¬ LetsOut Q) (hh : o.wp P a w K Q) : o.wp P a w K' Q' := by
  unfold Oper.wp at *
  generalize (execOp a.eval o).run P w = r at *
  cases r with
  | ok n w' =>
    cases n <;> simp only [Oper.upon] at hh ⊢ <;>
      first
        | exact hK _ _ hh
        | exact Calls.mono hh (fun e w'' he => by
            cases e with
            | returned v => exact hK _ _ he
            | panicked ch => exact absurd he (hQ _ _ _)
            | outgrown => exact absurd he ho)
        | exact Rows.mono hh (fun _ _ he => hK _ _ he)
  | halt x w' => cases x <;> simp only [Oper.upon] at hh ⊢ <;> exact absurd hh (hQ _ _ _)
def only (e1 : AEnv) (h1 : AHeap) : AQ := fun x e h => match x with
  | .norm => e = e1 ∧ h = h1
  | _ => False
theorem TOp.step {all : Array Oper} {e : AEnv} {h h1 : AHeap} {o : Oper} {v : AV} (hT : TOp P all e h o v h1) {i : Nat} (hi : all[i]? = some o) (hd : dstOk N o.dst = true) {cx : Cx} {a : Act} {w : World} {ι : Nat → Nat × Nat} {I : Nat → Prop}
    (hA : At N pin cx e h a w ι I) {Q : Exit → Act → World → Prop} {K : Act → World → Prop} (hK : ∀ a' w' ι' I', At N pin cx (putO e o.dst v) h1 a' w' ι' I' → K a' w') : wpOp P all Q i K a w := by
  have wanted : Wan all e o → Region.wanted o (yielded all a.tmps) = true := by
    rintro (hg | ⟨j, b, hg, hy⟩)
    · simp [Region.wanted, hg]
    · simp [Region.wanted, hg, hA.env.yld hy]
  have fin : Wan all e o → SemL P N pin all [{ o with guard := none }] (After P N pin (only (putO e o.dst v) h1) []) e h → wpOp P all Q i K a w := by
    intro hw hS
    have := hS cx a w ι I hA
    unfold wpList at this
    rw [if_pos (by simp [Region.wanted])] at this
    unfold wpOp
    simp only [hi]
    rw [if_pos (wanted hw)]
    rcases this with this | ⟨_, a', w', k⟩
    · left
      rw [guard_free] at this
      refine wp_mono2 ?_ ?_ ?_ this
      · intro a' w' hq
        obtain ⟨ι', I', e', h', q1, q2⟩ := hq
        simp only [After, only] at q2
        obtain ⟨rfl, rfl⟩ := q2
        exact hK a' w' ι' I' q1
      · rintro c a' w' ⟨ι', I', e', h', p, v, _, _, _, q⟩
        simp only [After, only] at q
      · rintro ⟨a', w', k⟩; exact k
    · exact k.elim
  have nilA : After P N pin (only (putO e o.dst v) h1) [.ops all []] .norm (putO e o.dst v) h1 := go_opsN (by simp [After, only])
  cases hT with
  | skip k1 k2 k3 =>
    unfold wpOp
    simp only [hi]
    rw [if_neg (by simp [Region.wanted, k1, hA.env.yld k2, k3])]
    exact hK _ _ ι I (hA.put hA.inv (Ext.refl _ _ _ _) (Nat.le_refl _) hd arel_skip trivial)
  | skipU k1 k2 =>
    unfold wpOp
    simp only [hi]
    rw [if_neg (by simp [Region.wanted, k1, hA.env.yldU k2])]
    exact hK _ _ ι I (hA.put hA.inv (Ext.refl _ _ _ _) (Nat.le_refl _) hd arel_skip trivial)
  | run k1 k2 k3 =>
    have := go_opA (pin := pin) (Q := only (putO e o.dst v) h1) (o := { o with guard := none }) (all := all) (rest := []) (k := []) rfl hd k3 nilA
    simp only [After] at this
    exact fin k1 this
  | call k1 k2 k3 k4 k5 =>
    rename_i x args argTypes f ps r
    have hc : CallK P f (args.toList.map (opd e) ++ []) h (fun y h' => y = .ret (.pv r) ∧ h' = h) := by
      rw [List.append_nil]
      exact Pure.call (K := fun _ y h' => y = .ret (.pv r) ∧ h' = h) k5 ((frzA_nil k4).2 h) ⟨rfl, rfl⟩
    have := go_call (pin := pin) (Q := only (putO e o.dst (.pv r)) h) (o := { o with guard := none }) (all := all) (rest := []) (k := []) rfl hd k2 k3 hc (fun v' h' hv => by
      obtain ⟨e1, rfl⟩ := hv
      cases e1
      exact nilA) (fun p h' hv => by cases hv.1)
    simp only [After] at this
    exact fin k1 this

/-! The text's own run: the states E i, H i ahead of operation i, and what it yields. -/
structure Txt (P : Program) (ops : Array Oper) (m : Nat) (E : Nat → AEnv) (H : Nat → AHeap) (V : Nat → AV) : Prop where
  step : ∀ (i : Nat) (o : Oper), i < m → ops[i]? = some o → TOp P ops (E i) (H i) o (V i) (H (i + 1))
  env : ∀ (i : Nat) (o : Oper), i < m → ops[i]? = some o → E (i + 1) = putO (E i) o.dst (V i)
theorem putO_ne {e : AEnv} {dst : Option Tmp} {v : AV} {t : Nat} (h : dst ≠ some t) : putO e dst v t = e t := by
  cases dst with
  | none => rfl
  | some d => simp only [putO, AEnv.put]; rw [if_neg (fun e => h (by rw [e]))]
section
variable {ops : Array Oper} {m : Nat} {E : Nat → AEnv} {H : Nat → AHeap} {V : Nat → AV}
theorem Txt.same (hT : Txt P ops m E H V) (hm : m ≤ ops.size) {t : Tmp} {i : Nat} : ∀ k, i ≤ k → k ≤ m → (∀ j, i ≤ j → j < k → dstOf ops j ≠ some t) → E k t = E i t
  | 0, h1, _, _ => by have : i = 0 := by omega
                      rw [this]
  | k + 1, h1, h2, h3 => by
    rcases Nat.lt_or_ge k i with h4 | h4
    · have : i = k + 1 := by omega
      rw [this]
    · have hk : k < ops.size := by omega
      have ho : ops[k]? = some ops[k] := Array.getElem?_eq_getElem hk
      rw [hT.env k _ (by omega) ho, putO_ne]
      · exact Txt.same hT hm k h4 (by omega) (fun j a b => h3 j a (by omega))
      · have := h3 k h4 (by omega)
        simpa [dstOf, ho] using this
theorem Txt.heap (hT : Txt P ops m E H V) (hm : m ≤ ops.size) {i : Nat} : ∀ k, i ≤ k → k ≤ m → (∀ j, i ≤ j → j < k → clsOf ops j < 2) → H k = H i
  | 0, h1, _, _ => by have : i = 0 := by omega
                      rw [this]
  | k + 1, h1, h2, h3 => by
    rcases Nat.lt_or_ge k i with h4 | h4
    · have : i = k + 1 := by omega
      rw [this]
    · have hk : k < ops.size := by omega
      have ho : ops[k]? = some ops[k] := Array.getElem?_eq_getElem hk
      have hs := hT.step k _ (by omega) ho
      have hc := h3 k h4 (by omega)
      simp only [clsOf, ho] at hc
      have : H (k + 1) = H k := by
        rcases Nat.lt_or_ge (cls ops[k].op) 1 with h5 | h5
        · exact (hs.free (by omega)).1
        · exact (hs.look (by omega)).1
      rw [this]
      exact Txt.heap hT hm k h4 (by omega) (fun j a b => h3 j a (by omega))
theorem Txt.more (hT : Txt P ops m E H V) (hm : m ≤ ops.size) {i : Nat} : ∀ k, i ≤ k → k ≤ m → (∀ j, i ≤ j → j < k → clsOf ops j ≠ 2) → ∃ x, H k = H i ++ x
  | 0, h1, _, _ => by have : i = 0 := by omega
                      rw [this]; exact ⟨[], by simp⟩
  | k + 1, h1, h2, h3 => by
    rcases Nat.lt_or_ge k i with h4 | h4
    · have : i = k + 1 := by omega
      rw [this]; exact ⟨[], by simp⟩
    · have hk : k < ops.size := by omega
      have ho : ops[k]? = some ops[k] := Array.getElem?_eq_getElem hk
      have hs := hT.step k _ (by omega) ho
      have hc := h3 k h4 (by omega)
      simp only [clsOf, ho] at hc
      have h6 : ∃ x, H (k + 1) = H k ++ x := by
        rcases Nat.lt_trichotomy (cls ops[k].op) 1 with h5 | h5 | h5
        · exact ⟨[], by rw [(hs.free (by omega)).1]; simp⟩
        · exact ⟨[], by rw [(hs.look (by omega)).1]; simp⟩
        · refine hs.make ?_
          have : cls ops[k].op ≤ 3 := by
            generalize ops[k].op = op
            cases op <;> (try (simp [cls]; done))
            rename_i c
            obtain ⟨callee, args, tys⟩ := c
            cases callee <;> (try (simp [cls]; done))
            rename_i b
            cases b <;> simp [cls]
          omega
      obtain ⟨x, hx⟩ := h6
      obtain ⟨y, hy⟩ := Txt.more hT hm (i := i) k h4 (by omega) (fun j a b => h3 j a (by omega))
      exact ⟨y ++ x, by rw [hx, hy]; simp⟩
def unl (ops : Array Oper) (m : Nat) (listed : Array Bool) (t : Nat) : Bool := (List.range m).any fun i => !listed.getD i false && dstOf ops i == some t
def eL (ops : Array Oper) (m : Nat) (Em : AEnv) (listed : Array Bool) : AEnv := fun t => if unl ops m listed t = true then .undef else Em t
structure InvL (P : Program) (N pin : Nat) (ops : Array Oper) (m : Nat) (Em : AEnv) (H : Nat → AHeap) (cx : Cx) (listed : Array Bool) (a : Act) (w : World) : Prop where
  size : listed.size = ops.size
  down : ∀ (i : Nat) (o : Oper), ops[i]? = some o → listed.getD i false = true → ∀ e ∈ o.after, Region.binds .any e = true → listed.getD e.on false = true
  tail : ∀ i, m ≤ i → listed.getD i false = false
  st : ∃ q, q ≤ m ∧ (∀ i, i < q → 2 ≤ clsOf ops i → listed.getD i false = true) ∧ (∀ i, q ≤ i → i < m → 2 ≤ clsOf ops i → listed.getD i false = false) ∧ ∃ ι I, At N pin cx (eL ops m Em listed) (H q) a w ι I
theorem getD_set {listed : Array Bool} {i j : Nat} (hi : i < listed.size) : (listed.setIfInBounds i true).getD j false = (if j = i then true else listed.getD j false) := by
  split
  · rename_i e; subst e; simp [hi]
  · rename_i e; exact getD_set_ne false (fun h => e h.symm)
theorem getD_def {listed : Array Bool} {i : Nat} (hi : i < listed.size) (a b : Bool) : listed.getD i a = listed.getD i b := by simp [hi]
theorem unl_true {listed : Array Bool} {t : Nat} : unl ops m listed t = true ↔ ∃ i, i < m ∧ listed.getD i false = false ∧ dstOf ops i = some t := by
  simp only [unl, List.any_eq_true, List.mem_range, Bool.and_eq_true, Bool.not_eq_true', beq_iff_eq]
theorem InvL.step (hd : DrawOk ops N m (clM ops.toList [])) (hT : Txt P ops m E H V) {cx : Cx} {listed : Array Bool} {a : Act} {w : World} (hv : InvL P N pin ops m (E m) H cx listed a w) {i : Nat} {o : Oper} (him : i < m) (ho : ops[i]? = some o)
    (hun : listed.getD i false = false) (hrd : ∀ e ∈ o.after, Region.binds .any e = true → listed.getD e.on false = true) {Q : Exit → Act → World → Prop} {K : Act → World → Prop}
    (hK : ∀ a' w', InvL P N pin ops m (E m) H cx (listed.setIfInBounds i true) a' w' → K a' w') : wpOp P ops Q i K a w := by
  have hn : i < ops.size := (Array.getElem?_eq_some_iff.1 ho).1
  have hcl : ∀ j, has (clM ops.toList []) i j = true → listed.getD j false = true := has_listed (L := fun j => listed.getD j false = true) hv.down i o ho hrd
  have hdi : dstOf ops i = o.dst := by simp [dstOf, ho]
  have hci : clsOf ops i = cls o.op := by simp [clsOf, ho]
  have agr : ∀ t, (∀ j, j < m → dstOf ops j = some t → has (clM ops.toList []) i j = true) → eL ops m (E m) listed t = E i t := by
    intro t ht
    have hu : ¬ unl ops m listed t = true := by
      rw [unl_true]
      rintro ⟨j, h1, h2, h3⟩
      rw [hcl j (ht j h1 h3)] at h2; cases h2
    simp only [eL]
    rw [if_neg hu]
    refine hT.same hd.le m (by omega) (Nat.le_refl _) fun j h1 h2 h3 => ?_
    have := hd.bnd i j hn (ht j h2 h3)
    omega
  have hops : ∀ x ∈ o.op.operands, opd (eL ops m (E m) listed) x = opd (E i) x := by
    intro x hx
    cases x with
    | tmp t => exact agr t fun j hj hjd => hd.use i o t j him ho hx hj hjd
    | const v => rfl
    | global g => rfl
    | func f => rfl
  have hgrd : ∀ j b, o.guard = some (j, b) → yld ops (eL ops m (E m) listed) j = yld ops (E i) j := by
    intro j b hg
    obtain ⟨hjm, hj⟩ := hd.grd i o j b him ho hg
    unfold yld
    cases hoj : ops[j]? with
    | none => rfl
    | some oj =>
      simp only
      cases hdj : oj.dst with
      | none => rfl
      | some t =>
        simp only
        refine agr t fun j' h1 h2 => ?_
        have : j' = j := hd.one j' j t h1 hjm h2 (by simp [dstOf, hoj, hdj])
        rw [this]; exact hj
  obtain ⟨q, hq, q1, q2, ι, I, hA⟩ := hv.st
  have hT0 := (hT.step i o him ho).agree hops hgrd
  -- the heap
  have heap : ∃ q', q' ≤ m ∧ TOp P ops (eL ops m (E m) listed) (H q) o (V i) (H q') ∧ (∀ j, j < q' → 2 ≤ clsOf ops j → j = i ∨ listed.getD j false = true) ∧ (∀ j, q' ≤ j → j < m → 2 ≤ clsOf ops j → j ≠ i ∧ listed.getD j false = false) := by
    rcases Nat.lt_or_ge (cls o.op) 2 with hc2 | hc2
    · refine ⟨q, hq, ?_, fun j h1 h2 => .inr (q1 j h1 h2), fun j h1 h2 h3 => ⟨fun e => by subst e; omega, q2 j h1 h2 h3⟩⟩
      rcases Nat.lt_or_ge (cls o.op) 1 with hc1 | hc1
      · have := hT0.free (by omega)
        obtain ⟨_, k2⟩ := this
        exact (k2 (H q))
      · obtain ⟨k1, k2⟩ := hT0.look (by omega)
        refine ((k2 (H q) ?_))
        rcases Nat.lt_or_ge i q with hiq | hiq
        · left
          refine hT.more hd.le q (by omega) hq fun j h1 h2 h3 => ?_
          have hjl := q1 j h2 (by omega)
          rcases hd.look i j him (by omega) (by omega) h3 with k | k
          · have := hd.bnd i j hn k; omega
          · have hjn : j < ops.size := by have := hd.le; omega
            have := has_listed (L := fun j => listed.getD j false = true) hv.down j ops[j] (Array.getElem?_eq_getElem hjn) (hv.down j ops[j] (Array.getElem?_eq_getElem hjn) hjl) i k
            rw [hun] at this; cases this
        · right
          refine ⟨hT.more hd.le i hiq (by omega) fun j h1 h2 h3 => ?_, fun x hx => (opd_rel hA.env x).2⟩
          have hju := q2 j h1 (by omega) (by omega)
          rcases hd.look i j him (by omega) (by omega) h3 with k | k
          · rw [hcl j k] at hju; cases hju
          · have := hd.bnd j i (by have := hd.le; omega) k; omega
    · have hle : q ≤ i := by
        rcases Nat.lt_or_ge i q with k | k
        · have := q1 i k (by omega); rw [hun] at this; cases this
        · exact k
      have he : H i = H q := by
        refine hT.heap hd.le i hle (by omega) fun j h1 h2 => ?_
        rcases Nat.lt_or_ge (clsOf ops j) 2 with k | k
        · exact k
        · have h3 := q2 j h1 (by omega) k
          have h4 := hcl j (hd.chain j i (by omega) him h2 k (by omega))
          rw [h3] at h4; cases h4
      refine ⟨i + 1, him, by rw [← he]; exact hT0, fun j h1 h2 => ?_, fun j h1 h2 h3 => ⟨by omega, ?_⟩⟩
      · rcases Nat.lt_or_ge j q with k | k
        · exact .inr (q1 j k h2)
        · rcases Nat.lt_or_ge j i with k' | k'
          · exact .inr (hcl j (hd.chain j i (by omega) him k' h2 (by omega)))
          · exact .inl (by omega)
      · exact q2 j (by omega) h2 h3
  obtain ⟨q', hq', hTq, p1, p2⟩ := heap
  refine hTq.step ho (hd.dst i o ho) hA fun a' w' ι' I' hA' => hK a' w' ?_
  have hsz : i < listed.size := by rw [hv.size]; exact hn
  refine ⟨by simp [hv.size], fun j oj hj hl e he hb => ?_, fun j hj => ?_, q', hq', fun j h1 h2 => ?_, fun j h1 h2 h3 => ?_, ι', I', ?_⟩
  · rw [getD_set hsz] at hl ⊢
    split
    · rfl
    · split at hl
      · rename_i e1; subst e1
        rw [ho] at hj; cases hj
        exact hrd e he hb
      · exact hv.down j oj hj hl e he hb
  · rw [getD_set hsz, if_neg (by omega)]; exact hv.tail j hj
  · rw [getD_set hsz]
    rcases p1 j h1 h2 with k | k
    · rw [if_pos k]
    · split
      · rfl
      · exact k
  · obtain ⟨k1, k2⟩ := p2 j h1 h2 h3
    rw [getD_set hsz, if_neg k1]; exact k2
  · have : eL ops m (E m) (listed.setIfInBounds i true) = putO (eL ops m (E m) listed) o.dst (V i) := by
      have hu : ∀ t, dstOf ops i ≠ some t → (unl ops m (listed.setIfInBounds i true) t = true ↔ unl ops m listed t = true) := by
        intro t ht
        rw [unl_true, unl_true]
        constructor
        · rintro ⟨j, h1, h2, h3⟩
          rw [getD_set hsz] at h2
          split at h2
          · cases h2
          · exact ⟨j, h1, h2, h3⟩
        · rintro ⟨j, h1, h2, h3⟩
          refine ⟨j, h1, ?_, h3⟩
          rw [getD_set hsz, if_neg (fun (e : j = i) => ht (by rw [← e]; exact h3))]; exact h2
      funext t
      by_cases ht : dstOf ops i = some t
      · rw [hdi] at ht
        rw [ht]
        simp only [putO, AEnv.put, if_pos]
        have hu' : ¬ unl ops m (listed.setIfInBounds i true) t = true := by
          rw [unl_true]
          rintro ⟨j, h1, h2, h3⟩
          have : j = i := hd.one j i t h1 him h3 (by rw [hdi]; exact ht)
          rw [getD_set hsz, if_pos this] at h2; cases h2
        simp only [eL]
        rw [if_neg hu']
        rw [hT.same hd.le (i := i + 1) m him (Nat.le_refl _) fun j h1 h2 h3 => by
          have : j = i := hd.one j i t h2 him h3 (by rw [hdi]; exact ht)
          omega]
        rw [hT.env i o him ho, ht]
        simp [putO, AEnv.put]
      · rw [putO_ne (by rw [← hdi]; exact ht)]
        simp only [eL]
        have := hu t ht
        by_cases hx : unl ops m listed t = true
        · rw [if_pos hx, if_pos (this.2 hx)]
        · rw [if_neg hx, if_neg (fun k => hx (this.1 k))]
    rw [this]; exact hA'
end
end
end Go.Proofs.YtahamnipffckhaaDoor
