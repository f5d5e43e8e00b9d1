import Derived.Test.YtahamnipffckhaaDoorAm14
set_option linter.unusedVariables false
set_option linter.unusedSimpArgs false
namespace Go.Proofs.YtahamnipffckhaaDoor
open Go Go.RowKit

/-! ### 30. A region that draws: what is asked of its text -/
def dstOf (ops : Array Oper) (i : Nat) : Option Tmp := (ops[i]?).bind (·.dst)
def clsOf (ops : Array Oper) (i : Nat) : Nat := match ops[i]? with
  | some o => cls o.op
  | none => 0
def depsM (o : Oper) (acc : List Nat) : Nat := o.after.toList.foldl (fun s e => if Region.binds .any e = true then s ||| 2 ^ e.on ||| acc.getD e.on 0 else s) 0
def clM : List Oper → List Nat → List Nat
  | [], acc => acc
  | o :: r, acc => clM r (acc ++ [depsM o acc])
def has (cl : List Nat) (i j : Nat) : Bool := (cl.getD i 0).testBit j
def tmpsOf (op : Op) : List Tmp := op.operands.toList.filterMap fun
  | .tmp t => some t
  | _ => none
def chkOne (ops : Array Oper) (cl : List Nat) (m i : Nat) (o : Oper) : Bool :=
  ((tmpsOf o.op).all fun t => (List.range m).all fun j => !(dstOf ops j == some t) || has cl i j) &&
  (match o.guard with
    | none => true
    | some (j, _) => Nat.blt j m && has cl i j) &&
  ((List.range m).all fun j => i == j || dstOf ops i == none || !(dstOf ops j == dstOf ops i)) &&
  ((List.range m).all fun j => !(Nat.blt i j) || !(Nat.ble 2 (clsOf ops i)) || !(Nat.ble 2 (clsOf ops j)) || has cl j i) &&
  ((List.range m).all fun j => !(clsOf ops i == 1) || !(clsOf ops j == 2) || has cl i j || has cl j i)
def drawOk (ops : Array Oper) (N m : Nat) : Bool :=
  let cl := clM ops.toList []
  Nat.ble m ops.size && cl.length == ops.size &&
  ((List.range ops.size).all fun i => Nat.blt (cl.getD i 0) (2 ^ i)) &&
  ((List.range ops.size).all fun i => dstOk N (dstOf ops i)) &&
  ((List.range ops.size).all fun i => match ops[i]? with
    | some o => o.after.toList.all fun e => !Region.binds .any e || Nat.blt e.on i
    | none => false) &&
  ((List.range m).all fun i => match ops[i]? with
    | some o => chkOne ops cl m i o
    | none => false) &&
  ((List.range ops.size).all fun i => Nat.blt i m || (List.range i).all (has cl i))
section
theorem clM_good (ops : List Oper) : ∀ (l : List Oper) (acc : List Nat), (∀ i x, acc[i]? = some x → ∃ o, ops[i]? = some o ∧ x = depsM o (acc.take i)) → (∀ k, l[k]? = ops[acc.length + k]?) →
    ∀ i x, (clM l acc)[i]? = some x → ∃ o, ops[i]? = some o ∧ x = depsM o ((clM l acc).take i)
  | [], acc, hg, _, i, x, hi => by simp only [clM] at hi ⊢; exact hg i x hi
  | o :: r, acc, hg, hl, i, x, hi => by
    simp only [clM] at hi ⊢
    refine clM_good ops r (acc ++ [depsM o acc]) (fun i x hi => ?_) (fun k => ?_) i x hi
    · rcases Nat.lt_trichotomy i acc.length with h1 | h1 | h1
      · rw [List.getElem?_append_left h1] at hi
        obtain ⟨o', e1, e2⟩ := hg i x hi
        exact ⟨o', e1, by rw [List.take_append_of_le_length (by omega)]; exact e2⟩
      · subst h1
        simp at hi
        subst hi
        have := hl 0
        simp at this
        exact ⟨o, this.symm, by simp⟩
      · rw [List.getElem?_eq_none (by simp; omega)] at hi; cases hi
    · have := hl (k + 1)
      simp only [List.getElem?_cons_succ] at this
      rw [this]
      simp only [List.length_append, List.length_cons, List.length_nil]
      congr 1; omega
theorem fold_bit {acc : List Nat} {j : Nat} : ∀ (l : List Edge) (s : Nat), (l.foldl (fun s e => if Region.binds .any e = true then s ||| 2 ^ e.on ||| acc.getD e.on 0 else s) s).testBit j = true →
    s.testBit j = true ∨ ∃ e ∈ l, Region.binds .any e = true ∧ (j = e.on ∨ (acc.getD e.on 0).testBit j = true)
  | [], s, h => .inl h
  | e :: l, s, h => by
    simp only [List.foldl_cons] at h
    rcases fold_bit l _ h with h1 | ⟨e', h1, h2⟩
    · split at h1
      · rename_i hb
        rw [Nat.testBit_or, Nat.testBit_or, Bool.or_eq_true, Bool.or_eq_true, Nat.testBit_two_pow] at h1
        rcases h1 with (h1 | h1) | h1
        · exact .inl h1
        · exact .inr ⟨e, by simp, hb, .inl (by simpa [eq_comm] using h1)⟩
        · exact .inr ⟨e, by simp, hb, .inr h1⟩
      · exact .inl h1
    · exact .inr ⟨e', by simp [h1], h2⟩
theorem has_listed {ops : Array Oper} {L : Nat → Prop} (hd : ∀ i o, ops[i]? = some o → L i → ∀ e ∈ o.after, Region.binds .any e = true → L e.on) :
    ∀ i o, ops[i]? = some o → (∀ e ∈ o.after, Region.binds .any e = true → L e.on) → ∀ j, has (clM ops.toList []) i j = true → L j := by
  have good := clM_good ops.toList ops.toList [] (fun i x hi => by simp at hi) (fun k => by simp)
  intro i
  induction i using Nat.strongRecOn with
  | _ i ih =>
    intro o ho hL j hj
    unfold has at hj
    cases hx : (clM ops.toList [])[i]? with
    | none => simp [List.getD_eq_getElem?_getD, hx] at hj
    | some x =>
      rw [List.getD_eq_getElem?_getD, hx, Option.getD_some] at hj
      obtain ⟨o', e1, e2⟩ := good i x hx
      have : o' = o := by simpa [ho] using e1.symm
      subst this
      subst e2
      rcases fold_bit _ _ hj with h1 | ⟨e, h1, h2, h3⟩
      · simp at h1
      · have hon : L e.on := hL e (by simpa using h1) h2
        rcases h3 with h3 | h3
        · rw [h3]; exact hon
        · rw [List.getD_eq_getElem?_getD, List.getElem?_take] at h3
          split at h3
          · rename_i hlt
            cases hy : (clM ops.toList [])[e.on]? with
            | none => simp [hy] at h3
            | some y =>
              obtain ⟨o2, f1, _⟩ := good e.on y hy
              have f1' : ops[e.on]? = some o2 := by simpa using f1
              exact ih e.on hlt o2 f1' (hd e.on o2 f1' hon) j (by unfold has; rw [List.getD_eq_getElem?_getD]; exact h3)
          · simp at h3
end
structure DrawOk (ops : Array Oper) (N m : Nat) (cl : List Nat) : Prop where
  le : m ≤ ops.size
  bnd : ∀ i j : Nat, i < ops.size → has cl i j = true → j < i
  dst : ∀ (i : Nat) (o : Oper), ops[i]? = some o → dstOk N o.dst = true
  fwd : ∀ (i : Nat) (o : Oper), ops[i]? = some o → ∀ e ∈ o.after, Region.binds .any e = true → e.on < i
  use : ∀ (i : Nat) (o : Oper) (t : Tmp) (j : Nat), i < m → ops[i]? = some o → .tmp t ∈ o.op.operands → j < m → dstOf ops j = some t → has cl i j = true
  grd : ∀ (i : Nat) (o : Oper) (j : Nat) (b : Bool), i < m → ops[i]? = some o → o.guard = some (j, b) → j < m ∧ has cl i j = true
  one : ∀ (i j : Nat) (t : Tmp), i < m → j < m → dstOf ops i = some t → dstOf ops j = some t → i = j
  chain : ∀ i j : Nat, i < m → j < m → i < j → 2 ≤ clsOf ops i → 2 ≤ clsOf ops j → has cl j i = true
  look : ∀ i j : Nat, i < m → j < m → clsOf ops i = 1 → clsOf ops j = 2 → has cl i j = true ∨ has cl j i = true
  tail : ∀ i j : Nat, m ≤ i → i < ops.size → j < i → has cl i j = true
theorem DrawOk.of {ops : Array Oper} {N m : Nat} (h : drawOk ops N m = true) : DrawOk ops N m (clM ops.toList []) := by
  simp only [drawOk, Bool.and_eq_true, List.all_eq_true, List.mem_range, Nat.ble_eq, beq_iff_eq] at h
  obtain ⟨⟨⟨⟨⟨⟨h1, h2⟩, h3⟩, h4⟩, h7⟩, h5⟩, h6⟩ := h
  have one : ∀ i, i < m → ∃ o, ops[i]? = some o ∧ chkOne ops (clM ops.toList []) m i o = true := by
    intro i hi
    have := h5 i hi
    split at this
    · rename_i o ho; exact ⟨o, ho, this⟩
    · cases this
  have parts : ∀ i o, i < m → ops[i]? = some o → chkOne ops (clM ops.toList []) m i o = true := by
    intro i o hi ho
    obtain ⟨o', k1, k2⟩ := one i hi
    rw [ho] at k1; cases k1; exact k2
  refine ⟨h1, fun i j hi hj => ?_, fun i o ho => ?_, fun i o ho e he hb => ?_, fun i o t j hi ho ht hj hd => ?_, fun i o j b hi ho hg => ?_, fun i j t hi hj e1 e2 => ?_, fun i j hi hj hij c1 c2 => ?_, fun i j hi hj c1 c2 => ?_, fun i j hi hn hj => ?_⟩
  · have hlt := h3 i hi
    simp only [Nat.blt_eq] at hlt
    unfold has at hj
    rcases Nat.lt_or_ge j i with k | k
    · exact k
    · have := Nat.testBit_lt_two_pow (Nat.lt_of_lt_of_le hlt (Nat.pow_le_pow_right (by omega) k))
      rw [this] at hj; cases hj
  · have hi : i < ops.size := (Array.getElem?_eq_some_iff.1 ho).1
    have := h4 i hi
    simpa [dstOf, ho] using this
  · have hi : i < ops.size := (Array.getElem?_eq_some_iff.1 ho).1
    have := h7 i hi
    simp only [ho, List.all_eq_true] at this
    have k := this e (by simpa using he)
    simpa [hb, Nat.blt_eq] using k
  · have := parts i o hi ho
    simp only [chkOne, Bool.and_eq_true, List.all_eq_true, List.mem_range] at this
    have k := this.1.1.1.1 t (by
      unfold tmpsOf
      exact List.mem_filterMap.2 ⟨.tmp t, by simpa using ht, rfl⟩) j hj
    simpa [hd] using k
  · have := parts i o hi ho
    simp only [chkOne, Bool.and_eq_true, hg, Nat.blt_eq] at this
    exact this.1.1.1.2
  · obtain ⟨o, ho, _⟩ := one i hi
    have := parts i o hi ho
    simp only [chkOne, Bool.and_eq_true, List.all_eq_true, List.mem_range] at this
    have k := this.1.1.2 j hj
    simpa [e1, e2] using k
  · obtain ⟨o, ho, _⟩ := one i hi
    have := parts i o hi ho
    simp only [chkOne, Bool.and_eq_true, List.all_eq_true, List.mem_range] at this
    have k := this.1.2 j hj
    simp only [Bool.or_eq_true, Bool.not_eq_true', Nat.blt_eq, Nat.ble_eq] at k
    rcases k with ((k | k) | k) | k
    · simp [Nat.blt_eq, ← Bool.not_eq_true] at k; omega
    · simp [Nat.ble_eq, ← Bool.not_eq_true] at k; omega
    · simp [Nat.ble_eq, ← Bool.not_eq_true] at k; omega
    · exact k
  · obtain ⟨o, ho, _⟩ := one i hi
    have := parts i o hi ho
    simp only [chkOne, Bool.and_eq_true, List.all_eq_true, List.mem_range] at this
    have k := this.2 j hj
    simpa [c1, c2] using k
  · have k := h6 i hn
    simp only [Bool.or_eq_true, Nat.blt_eq, List.all_eq_true, List.mem_range] at k
    rcases k with k | k
    · omega
    · exact k j hj
end Go.Proofs.YtahamnipffckhaaDoor
