import Derived.Test.YtahamnipffckhaaDoorAm2
set_option linter.unusedVariables false
set_option linter.unusedSimpArgs false
namespace Go.Proofs.YtahamnipffckhaaDoor
open Go Go.RowKit

/-! ### 5. What the table of types says -/
def aggT (P : Program) (t : TypeId) : Option Bool := match P.underlying t with
  | some (.struct _) | some (.array _ _) => some true
  | some _ => some false
  | none => none
def szT (P : Program) (t : TypeId) : Option Nat := (P.info? t).map (·.size)
def bytT (P : Program) (t : TypeId) : Option Nat := (P.info? t).map (·.bytes)
def fieldT (P : Program) (s : TypeId) (f : Nat) : Option (Nat × TypeId) := match P.underlying s with
  | some (.struct fs) => match fs[f]? with
    | some fd => some (fd.offset, fd.type)
    | none => none
  | _ => none
def slT (P : Program) (t : TypeId) : Option TypeId := match P.underlying t with
  | some (.slice e) => some e
  | _ => none
def arT (P : Program) (t : TypeId) : Option (Nat × TypeId) := match P.underlying t with
  | some (.array n e) => some (n, e)
  | _ => none
def zeroT (P : Program) (t : TypeId) : Option (List AV) := (P.info? t).bind fun i => i.zero.bind fun z => if z.cells.size = i.size then cstL z.cells.toList else none
section
variable {P : Program} {w : World}
theorem run_isAgg' {t : TypeId} {b : Bool} (h : aggT P t = some b) : (isAgg t).run P w = .ok b w := by
  unfold aggT at h
  unfold isAgg
  split at h <;> cases h <;> rename_i hu
  · simp [run_underlying hu]
  · simp [run_underlying hu]
  · rename_i d h1 h2
    simp only [Sem.run_bind, run_underlying hu, Result.andThen_ok]
    rfl
theorem run_sizeOf' {t : TypeId} {n : Nat} (h : szT P t = some n) : (sizeOf t).run P w = .ok n w := by
  unfold szT at h
  cases hi : P.info? t with
  | none => simp [hi] at h
  | some i => simp [hi] at h; simp [sizeOf, typeInfo, hi, h]
end

/-! ### 6. Reading -/
def ldC (P : Program) (t : TypeId) (cs : List AV) : Option AV := match aggT P t with
  | some true => match szT P t with
    | some n => if n ≤ cs.length then some (mkAgg (cs.take n)) else none
    | none => none
  | some false => cs.head?
  | none => none
def ldR (P : Program) (t : TypeId) (x : AV) (h : AHeap) : Option AV := match x with
  | .ptr id off => match h[id]? with
    | some (.box cs) => ldC P t (cs.drop off)
    | _ => none
  | .iptr cs => ldC P t (cs.map .pv)
  | .eptr id sz i j => match h[id]? with
    | some (.arr _ s es) => if s = sz then match es[i]? with
      | some c => ldC P t ((c.map .pv).drop j)
      | none => none
      else none
    | some (.imm s es) => if s = sz then match es[i]? with
      | some c => ldC P t ((c.map .pv).drop j)
      | none => none
      else none
    | _ => none
  | _ => none
def cellsAt (w : World) (I : Nat → Prop) (ι : Nat → Nat × Nat) (n b o : Nat) (cs : List AV) : Prop :=
  ∀ j x, cs[j]? = some x → x.cell = true ∧ x.lt n ∧ ∃ u, w.cell? ⟨b, o + j, none⟩ = some u ∧ arel w I ι x u
section
variable {P : Program} {n : Nat} {w : World} {I : Nat → Prop} {ι : Nat → Nat × Nat}
theorem addr_add (b o j : Nat) : (⟨b, o, none⟩ : Addr).add j = ⟨b, o + j, none⟩ := by unfold Addr.add; split <;> simp_all
theorem cellsAt_list : ∀ {cs : List AV} {b o : Nat}, cellsAt w I ι n b o cs → ∃ vs, arelL w I ι cs vs ∧ (∀ j v, vs[j]? = some v → w.cell? ⟨b, o + j, none⟩ = some v) ∧ (∀ c ∈ cs, c.cell = true) ∧ AV.ltL n cs
  | [], b, o, _ => ⟨[], by simp [arelL], by simp, by simp, trivial⟩
  | c :: cs, b, o, h => by
    obtain ⟨h1, h2, u, h3, h4⟩ := h 0 c (by simp)
    obtain ⟨vs, k1, k2, k3, k4⟩ := cellsAt_list (cs := cs) (b := b) (o := o + 1) (fun j x hx => by
      have := h (j + 1) x (by simpa using hx)
      rwa [show o + (j + 1) = o + 1 + j by omega] at this)
    refine ⟨u :: vs, ?_, fun j v hv => ?_, fun x hx => ?_, h2, k4⟩
    · simp only [arelL]; exact ⟨u, vs, rfl, h4, k1⟩
    · cases j with
      | zero => simp at hv; subst hv; exact h3
      | succ j =>
        have := k2 j v (by simpa using hv)
        rwa [show o + (j + 1) = o + 1 + j by omega]
    · rcases List.mem_cons.1 hx with e | e
      · subst e; exact h1
      · exact k3 x e
theorem cellsAt_drop {cs : List AV} {b o k : Nat} (h : cellsAt w I ι n b o cs) : cellsAt w I ι n b (o + k) (cs.drop k) := fun j x hx => by
  rw [List.getElem?_drop] at hx
  have := h (k + j) x hx
  rwa [show o + (k + j) = o + k + j by omega] at this
theorem cellsAt_take {cs : List AV} {b o k : Nat} (h : cellsAt w I ι n b o cs) : cellsAt w I ι n b o (cs.take k) := fun j x hx => by
  rw [List.getElem?_take] at hx
  split at hx
  · exact h j x hx
  · cases hx
theorem loadVar_rel {t : TypeId} {b o : Nat} {cs : List AV} {x : AV} (hc : cellsAt w I ι n b o cs) (h : ldC P t cs = some x) :
    ∃ u, (loadVar t ⟨b, o, none⟩).run P w = .ok u w ∧ arel w I ι x u ∧ x.lt n := by
  unfold ldC at h
  split at h
  · rename_i ha
    split at h
    · rename_i m hm
      split at h
      · rename_i hl
        cases h
        obtain ⟨vs, k1, k2, k3, k4⟩ := cellsAt_list (cellsAt_take (k := m) hc)
        have hlen : vs.length = m := by rw [arelL_length k1, List.length_take]; omega
        have hrun := run_loadCells_list (P := P) w ⟨b, o, none⟩ vs (fun j v hv => by rw [addr_add]; exact k2 j v hv)
        rw [hlen] at hrun
        obtain ⟨r1, r2⟩ := mkAgg_rel k1 k3 k4
        refine ⟨_, ?_, r1, r2⟩
        unfold loadVar
        simp [run_isAgg' ha, run_sizeOf' hm, hrun]
      · cases h
    · cases h
  · rename_i ha
    cases cs with
    | nil => cases h
    | cons c cs =>
      simp at h; subst h
      obtain ⟨h1, h2, u, h3, h4⟩ := hc 0 c (by simp)
      refine ⟨u, ?_, h4, h2⟩
      unfold loadVar
      simp only [Sem.run_bind, run_isAgg' ha, Result.andThen_ok]
      simp at h3
      simp [h3]
  · cases h
theorem cellsAt_of_relAt : ∀ {ps : List PV} {b o : Nat}, relAt w I b ps o → cellsAt w I ι n b o (ps.map .pv)
  | [], b, o, _ => fun j x hx => by simp at hx
  | p :: ps, b, o, h => fun j x hx => by
    simp only [relAt] at h
    obtain ⟨⟨h0, u, h1, h2⟩, h3⟩ := h
    cases j with
    | zero => simp at hx; subst hx; exact ⟨h0, trivial, u, by simpa using h1, by simpa [arel] using h2⟩
    | succ j =>
      have := cellsAt_of_relAt h3 j x (by simpa using hx)
      rwa [show o + (j + 1) = o + 1 + j by omega]
theorem cellsAt_of_box {b : Nat} {t : TypeId} : ∀ {cs : List AV} {vs all : List Value} {k : Nat}, arelL w I ι cs vs → (∀ c ∈ cs, c.cell = true) → AV.ltL n cs → w.heap[b]? = some (.cells all.toArray t (0, 0)) → (∀ j v, vs[j]? = some v → all[k + j]? = some v) → cellsAt w I ι n b k cs := by
  intro cs vs all k h hc hl hb hk j x hx
  obtain ⟨u, h1, h2⟩ := arelL_get h hx
  refine ⟨hc x (List.mem_of_getElem? hx), (AV.ltL_iff.1 hl) x (List.mem_of_getElem? hx), u, ?_, h2⟩
  simp only [World.cell?, hb]
  simpa using hk j u h1
theorem arrRel_get {sz : Nat} : ∀ {es : List (List PV)} {vs : List Value} {i : Nat} {c : List PV}, arrRel w I sz es vs → es[i]? = some c → c.length = sz ∧ (i + 1) * sz ≤ vs.length ∧ (∀ p ∈ c, p.scalar = true) ∧ relL w I c ((vs.drop (i * sz)).take sz)
  | [], vs, i, c, h, hi => by simp at hi
  | d :: es, vs, i, c, ⟨h1, h0, h2, h3, h4⟩, hi => by
    cases i with
    | zero => simp at hi; subst hi; exact ⟨h1, by simpa using h0, h2, by simpa using h3⟩
    | succ i =>
      obtain ⟨k1, k2, k3, k4⟩ := arrRel_get h4 (by simpa using hi : es[i]? = some c)
      rw [List.length_drop] at k2
      rw [List.drop_drop] at k4
      have e1 : (i + 1 + 1) * sz = (i + 1) * sz + sz := by rw [Nat.add_mul (i + 1)]; omega
      have e2 : sz + i * sz = (i + 1) * sz := by rw [Nat.add_mul]; omega
      rw [e2] at k4
      exact ⟨k1, by omega, k3, k4⟩
theorem cellsAt_of_arr {b sz i : Nat} {t : TypeId} {es : List (List PV)} {vs : List Value} {c : List PV} (h : arrRel w I sz es vs) (hb : w.heap[b]? = some (.cells vs.toArray t (0, 0))) (hi : es[i]? = some c) : cellsAt w I ι n b (i * sz) (c.map .pv) := by
  obtain ⟨k1, k2, k3, k4⟩ := arrRel_get h hi
  refine cellsAt_of_box (all := vs) (arelL_map_pv.1 k4) (fun x hx => ?_) (AV.ltL_iff.2 fun x hx => ?_) hb (fun j v hv => ?_)
  · obtain ⟨p, hp, rfl⟩ := List.mem_map.1 hx; exact k3 p hp
  · obtain ⟨p, hp, rfl⟩ := List.mem_map.1 hx; trivial
  · rw [List.getElem?_take] at hv
    split at hv
    · rw [List.getElem?_drop] at hv; exact hv
    · cases hv
theorem ldR_sound {G : Ghost} {h : AHeap} (hI : Inv G ι I h w) {t : TypeId} {x y : AV} {v : Value} (hx : arel w I ι x v) (hl : ldR P t x h = some y) :
    ∃ u, (Instr.loadAt t v).run P w = .ok u w ∧ arel w I ι y u ∧ y.lt h.length := by
  have key : ∀ (b o : Nat) (cs : List AV), v = .pointer (some ⟨b, o, none⟩) → cellsAt w I ι h.length b o cs → ldC P t cs = some y → ∃ u, (Instr.loadAt t v).run P w = .ok u w ∧ arel w I ι y u ∧ y.lt h.length := by
    intro b o cs hv hc hl
    obtain ⟨u, h1, h2, h3⟩ := loadVar_rel (P := P) hc hl
    exact ⟨u, by subst hv; simp [Instr.loadAt, Instr.sureAddr, h1], h2, h3⟩
  unfold ldR at hl
  split at hl
  · rename_i id off
    split at hl
    · rename_i cs hb
      obtain ⟨k1, vs, t', k2, k3, k4⟩ := hI.obj id _ hb
      simp only [arel] at hx
      refine key _ off _ hx ?_ hl
      have := cellsAt_drop (k := off) (cellsAt_of_box (k := 0) k4 k3 k1 k2 (fun j v hv => by simpa using hv))
      simpa using this
    · cases hl
  · rename_i cs
    simp only [arel] at hx
    obtain ⟨b, o, e, _, hr⟩ := hx
    exact key b o _ e (cellsAt_of_relAt hr) hl
  · rename_i id sz i j
    simp only [arel] at hx
    split at hl
    · rename_i t' s es hb
      split at hl
      · rename_i e; subst e
        split at hl
        · rename_i c hc
          rcases (hI.obj id _ hb).2 with ⟨k0, e0⟩ | ⟨k0, vs, k2, k3, k4, k5, k6, k7⟩
          · subst e0; simp at hc
          exact key _ _ _ hx (cellsAt_drop (k := j) (cellsAt_of_arr k7 k2 hc)) hl
        · cases hl
      · cases hl
    · rename_i s es hb
      split at hl
      · rename_i e; subst e
        split at hl
        · rename_i c hc
          rcases (hI.obj id _ hb).2 with ⟨k0, e0⟩ | ⟨k0, k2, k3, k4, k5⟩
          · subst e0; simp at hc
          obtain ⟨r1, r2⟩ := relEls_get k5 hc
          simp only [Nat.zero_add] at r2
          exact key _ _ _ hx (cellsAt_drop (k := j) (cellsAt_of_relAt r2)) hl
        · cases hl
      · cases hl
    · cases hl
  · cases hl
end

/-! ### 7. Writing -/
def splice {α : Type} (cs : List α) (off : Nat) (new : List α) : List α := cs.take off ++ new ++ cs.drop (off + new.length)
def stR (P : Program) (t : TypeId) (x v : AV) (h : AHeap) : Option AHeap := match x with
  | .ptr id off => match h[id]? with
    | some (.box cs) => if v.solid = true ∧ szT P t = some v.cells.length ∧ off + v.cells.length ≤ cs.length then some (h.set id (.box (splice cs off v.cells))) else none
    | _ => none
  | .eptr id sz i j => match h[id]? with
    | some (.arr t' s es) => match es[i]?, pvs v.cells with
      | some c, some ps => if v.solid = true ∧ s = sz ∧ szT P t = some ps.length ∧ j + ps.length ≤ c.length then some (h.set id (.arr t' s (es.set i (splice c j ps)))) else none
      | _, _ => none
    | _ => none
  | _ => none
section
variable {P : Program} {w : World} {I : Nat → Prop} {ι : Nat → Nat × Nat}
theorem storeVar_run {t : TypeId} {b o : Nat} {T : TypeId} {all : List Value} {v : Value} (hb : w.heap[b]? = some (.cells all.toArray T (0, 0))) (hs : szT P t = some v.cells.size) (hl : o + v.cells.size ≤ all.length) (h1 : ∀ u ∈ v.cells.toList, u.oneCell' = true) :
    (storeVar t ⟨b, o, none⟩ v).run P w = .ok () (w.setRow b (splice all o v.cells.toList).toArray) := by
  have := run_storeCells_at (P := P) b o T v.cells.toList 0 all.toArray w hb (by simpa using hl) h1
  unfold storeVar
  simp only [Sem.run_bind, run_sizeOf' hs, Result.andThen_ok]
  simpa [splice] using this
theorem arelL_one : ∀ {cs : List AV} {vs : List Value}, arelL w I ι cs vs → (∀ c ∈ cs, c.cell = true) → ∀ u ∈ vs, u.oneCell' = true
  | [], vs, h, _, u, hu => by simp only [arelL] at h; subst h; simp at hu
  | c :: cs, vs, h, hc, u, hu => by
    simp only [arelL] at h
    obtain ⟨v, us, rfl, h1, h2⟩ := h
    rcases List.mem_cons.1 hu with e | e
    · subst e; exact arel_oneCell h1 (hc c (by simp))
    · exact arelL_one h2 (fun x hx => hc x (by simp [hx])) u e
theorem arelL_splice {cs new : List AV} {vs us : List Value} {o : Nat} (h : arelL w I ι cs vs) (k : arelL w I ι new us) : arelL w I ι (splice cs o new) (splice vs o us) := by
  unfold splice
  rw [arelL_length k]
  exact arelL_append (arelL_append (arelL_take o h) k) (arelL_drop _ h)
theorem relL_append : ∀ {ps qs : List PV} {vs us : List Value}, relL w I ps vs → relL w I qs us → relL w I (ps ++ qs) (vs ++ us)
  | [], qs, vs, us, h, k => by simp only [relL] at h; subst h; simpa using k
  | p :: ps, qs, vs, us, h, k => by
    simp only [relL] at h
    obtain ⟨u, vs, rfl, h1, h3⟩ := h
    simp only [List.cons_append, relL]
    exact ⟨u, _, rfl, h1, relL_append h3 k⟩
theorem relL_splice {cs new : List PV} {vs us : List Value} {o : Nat} (h : relL w I cs vs) (k : relL w I new us) : relL w I (splice cs o new) (splice vs o us) := by
  unfold splice
  rw [relL_length k]
  exact relL_append (relL_append (relL_take o h) k) (relL_drop _ h)
theorem splice_length {α : Type} {cs new : List α} {o : Nat} (h : o + new.length ≤ cs.length) : (splice cs o new).length = cs.length := by
  simp [splice]; omega
theorem splice_mem {α : Type} {cs new : List α} {o : Nat} {x : α} (h : x ∈ splice cs o new) : x ∈ cs ∨ x ∈ new := by
  simp only [splice, List.mem_append] at h
  rcases h with (h | h) | h
  · exact .inl (List.mem_of_mem_take h)
  · exact .inr h
  · exact .inl (List.mem_of_mem_drop h)
theorem splice_get {α : Type} {cs new : List α} {o : Nat} (h : o + new.length ≤ cs.length) (k : Nat) : (splice cs o new)[k]? = if o ≤ k ∧ k < o + new.length then new[k - o]? else cs[k]? := by
  simp only [splice, List.getElem?_append, List.getElem?_take, List.getElem?_drop, List.length_append, List.length_take]
  have e : min o cs.length = o := by omega
  rw [e]
  by_cases h1 : k < o
  · rw [if_pos (by omega), if_pos h1, if_pos h1, if_neg (by omega)]
  · by_cases h2 : k < o + new.length
    · rw [if_pos h2, if_neg h1, if_pos ⟨by omega, h2⟩]
    · rw [if_neg h2, if_neg (by omega)]; congr 1; omega
theorem arrRel_splice {sz : Nat} : ∀ {es : List (List PV)} {vs us : List Value} {i j : Nat} {c ps : List PV}, arrRel w I sz es vs → es[i]? = some c → j + ps.length ≤ c.length → relL w I ps us → (∀ p ∈ ps, p.scalar = true) →
    arrRel w I sz (es.set i (splice c j ps)) (splice vs (i * sz + j) us)
  | [], vs, us, i, j, c, ps, h, hi, hj, hr, hs => by simp at hi
  | d :: es, vs, us, i, j, c, ps, ⟨h1, h0, h2, h3, h4⟩, hi, hj, hr, hs => by
    have hu := relL_length hr
    cases i with
    | zero =>
      simp at hi; subst hi
      simp only [List.set_cons_zero, arrRel, Nat.zero_mul, Nat.zero_add]
      refine ⟨(splice_length hj).trans h1, ?_, fun p hp => (splice_mem hp).elim (h2 p) (hs p), ?_, ?_⟩
      · rw [splice_length (by omega)]; exact h0
      · have e : (splice vs j us).take sz = splice (vs.take sz) j us := by
          apply List.ext_getElem?
          intro k
          rw [List.getElem?_take, splice_get (by omega), splice_get (by simp; omega), List.getElem?_take]
          by_cases h1 : k < sz
          · simp [h1]
          · rw [if_neg h1, if_neg (by omega), if_neg h1]
        rw [e]; exact relL_splice h3 hr
      · have e : (splice vs j us).drop sz = vs.drop sz := by
          apply List.ext_getElem?
          intro k
          rw [List.getElem?_drop, splice_get (by omega), List.getElem?_drop, if_neg (by omega)]
        rw [e]; exact h4
    | succ i =>
      simp only [List.set_cons_succ, arrRel]
      obtain ⟨k1, k2, _, _⟩ := arrRel_get h4 (by simpa using hi : es[i]? = some c)
      rw [List.length_drop] at k2
      have e0 : (i + 1) * sz + j = sz + (i * sz + j) := by rw [Nat.add_mul]; omega
      have e1 : (i + 1) * sz = i * sz + sz := by rw [Nat.add_mul]; omega
      rw [e0]
      refine ⟨h1, ?_, h2, ?_, ?_⟩
      · rw [splice_length (by omega)]; exact h0
      · have e : (splice vs (sz + (i * sz + j)) us).take sz = vs.take sz := by
          apply List.ext_getElem?
          intro k
          rw [List.getElem?_take, splice_get (by omega), List.getElem?_take]
          by_cases h1 : k < sz
          · rw [if_pos h1, if_pos h1, if_neg (by omega)]
          · rw [if_neg h1, if_neg h1]
        rw [e]; exact h3
      · have e : (splice vs (sz + (i * sz + j)) us).drop sz = splice (vs.drop sz) (i * sz + j) us := by
          apply List.ext_getElem?
          intro k
          rw [List.getElem?_drop, splice_get (by omega), splice_get (by simp; omega), List.getElem?_drop]
          by_cases h1 : i * sz + j ≤ k ∧ k < i * sz + j + us.length
          · rw [if_pos (by omega), if_pos h1]; congr 1; omega
          · rw [if_neg (by omega), if_neg h1]
        rw [e]; exact arrRel_splice h4 (by simpa using hi) hj hr hs
theorem setRow_at {b : Nat} {cur cs : Array Value} {T : TypeId} {fr : Nat × Nat} (h : w.heap[b]? = some (.cells cur T fr)) : (w.setRow b cs).heap[b]? = some (.cells cs T fr) := setRow_heap w b cur cs T fr h
theorem setRow_far {b b' : Nat} {cs : Array Value} (h : b' ≠ b) : (w.setRow b cs).heap[b']? = w.heap[b']? := by
  unfold World.setRow
  simp only [Array.getElem?_modify]
  rw [if_neg (fun e => h e.symm)]
theorem stR_sound {G : Ghost} {h h' : AHeap} (hI : Inv G ι I h w) {t : TypeId} {x y : AV} {v u : Value} (hx : arel w I ι x v) (hy : arel w I ι y u) (hyl : y.lt h.length) (hs : stR P t x y h = some h') :
    ∃ w', (Instr.storeAt t v u).run P w = .ok () w' ∧ Inv G ι I h' w' ∧ Ext I I ι ι h.length w w' ∧ h'.length = h.length := by
  unfold stR at hs
  split at hs
  · rename_i id off
    split at hs
    · rename_i cs hb
      split at hs
      · rename_i hc
        cases hs
        obtain ⟨c1, c2, c3⟩ := hc
        simp only [arel] at hx
        subst hx
        obtain ⟨k1, vs, T, k2, k3, k4⟩ := hI.obj id _ hb
        obtain ⟨r1, r2, r3⟩ := cells_rel hy c1 hyl
        have hlen : u.cells.toList.length = y.cells.length := arelL_length r1
        have hlen' : u.cells.size = y.cells.length := by simpa using hlen
        have hrun := storeVar_run (P := P) (t := t) (o := off) (v := u) k2 (by rw [hlen']; exact c2) (by rw [hlen', arelL_length k4]; exact c3) (arelL_one r1 r2)
        obtain ⟨e1, e2⟩ := hI.write (o' := .box (splice cs off y.cells)) (w' := w.setRow (ι id).1 (splice vs off u.cells.toList).toArray) hb rfl rfl rfl ⟨rfl, Nat.le_refl _⟩ (by simp [World.setRow]) (fun b hb' => setRow_far hb')
          (AV.ltL_iff.2 fun c hc => (splice_mem hc).elim (fun h1 => AV.ltL_iff.1 k1 c h1) (fun h1 => AV.ltL_iff.1 r3 c h1))
          (by
            obtain ⟨q1, q2, q3⟩ := hI.own id _ hb rfl
            have hE : Ext I I ι ι h.length w (w.setRow (ι id).1 (splice vs off u.cells.toList).toArray) := ⟨fun _ x => x, fun b hb' => setRow_far (fun e => q2 (e ▸ hb')), fun _ _ => rfl⟩
            refine ⟨_, T, setRow_at k2, fun c hc => (splice_mem hc).elim (k3 c) (r2 c), ?_⟩
            exact arelL_ext hE _ _ (AV.ltL_iff.2 fun c hc => (splice_mem hc).elim (fun h1 => AV.ltL_iff.1 k1 c h1) (fun h1 => AV.ltL_iff.1 r3 c h1)) (arelL_splice k4 r1))
        exact ⟨_, by simp [Instr.storeAt, Instr.sureAddr, hrun], e1, e2, by simp⟩
      · cases hs
    · cases hs
  · rename_i id sz i j
    split at hs
    · rename_i t' s es hb
      split at hs
      · rename_i c ps hc hp
        split at hs
        · rename_i hcond
          cases hs
          obtain ⟨c1, c2, c3, c4⟩ := hcond
          subst c2
          simp only [arel] at hx
          subst hx
          rcases (hI.obj id _ hb).2 with ⟨k0, e0⟩ | ⟨k0, vs, k2, k3, k4, k5, k6, k7⟩
          · subst e0; simp at hc
          have hlv : (AObj.arr t' s es).live (ι id).2 = true := by simpa [AObj.live] using k0
          obtain ⟨r1, r2, r3⟩ := cells_rel hy c1 hyl
          have hpv := pvs_eq hp
          rw [hpv] at r1 r2 r3
          have hr1 := arelL_map_pv.2 r1
          have hsc : ∀ p ∈ ps, p.scalar = true := fun p hp => r2 (.pv p) (List.mem_map.2 ⟨p, hp, rfl⟩)
          have hlen' : u.cells.size = ps.length := by simpa using relL_length hr1
          obtain ⟨g1, g2, g3, g4⟩ := arrRel_get k7 hc
          have e1 : (i + 1) * s = i * s + s := by rw [Nat.add_mul]; omega
          have hrun := storeVar_run (P := P) (t := t) (o := i * s + j) (v := u) k2 (by rw [hlen']; exact c3) (by rw [hlen']; omega) (arelL_one r1 r2)
          obtain ⟨e1, e2⟩ := hI.write (o' := .arr t' s (es.set i (splice c j ps))) (w' := w.setRow (ι id).1 (splice vs (i * s + j) u.cells.toList).toArray) hb hlv rfl rfl ⟨rfl, Nat.le_refl _⟩ (by simp [World.setRow]) (fun b hb' => setRow_far hb') trivial
            (by
              obtain ⟨q1, q2, q3⟩ := hI.own id _ hb hlv
              refine .inr ⟨k0, _, setRow_at k2, ?_, by simpa using k4, k5, by simpa using k6, ?_⟩
              · rw [splice_length (by simp [hlen']; omega)]; exact k3
              · exact arrRel_keep (fun b hb' => setRow_far (fun e => q2 (by rw [← e]; exact hb'))) (fun _ x => x) (arrRel_splice k7 hc c4 hr1 hsc))
          exact ⟨_, by simp [Instr.storeAt, Instr.sureAddr, hrun], e1, e2, by simp⟩
        · cases hs
      · cases hs
    · cases hs
  · cases hs
end
end Go.Proofs.YtahamnipffckhaaDoor
