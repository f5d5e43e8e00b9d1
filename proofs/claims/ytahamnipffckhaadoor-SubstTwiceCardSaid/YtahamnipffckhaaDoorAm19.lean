import Derived.Test.YtahamnipffckhaaDoorAm18
set_option linter.unusedVariables false
set_option linter.unusedSimpArgs false
namespace Go.Proofs.YtahamnipffckhaaDoor
open Go Go.RowKit

/-! ### 34. No slice is longer than an address is wide -/
mutual
def fitP : PV → Prop
  | .sl es => es.length ≤ 140737488355328 ∧ fitE es
  | .agg cs => fitL cs
  | .tup cs => fitL cs
  | .ifc _ p => fitP p
  | _ => True
def fitL : List PV → Prop
  | [] => True
  | p :: ps => fitP p ∧ fitL ps
def fitE : List (List PV) → Prop
  | [] => True
  | c :: cs => fitL c ∧ fitE cs
end
section
variable {w : World} {I : Nat → Prop}
mutual
theorem fit_rel : ∀ (p : PV) (v : Value), rel w I p v → fitP p
  | .sl es, v, h => by
    simp only [rel] at h
    obtain ⟨A, cap, _, _, h3, h4⟩ := h
    refine ⟨h3, ?_⟩
    rcases h4 with h4 | ⟨b, o, sz, _, _, h4⟩
    · subst h4; simp only [fitE]
    · exact fit_els es sz b o h4
  | .agg cs, v, h => by
    simp only [rel] at h
    obtain ⟨vs, _, _, h3⟩ := h
    simp only [fitP]; exact fit_relL cs vs h3
  | .tup cs, v, h => by
    simp only [rel] at h
    obtain ⟨vs, _, h3⟩ := h
    simp only [fitP]; exact fit_relL cs vs h3
  | .ifc _ p, v, h => by
    simp only [rel] at h
    obtain ⟨u, _, h3⟩ := h
    simp only [fitP]; exact fit_rel p u h3
  | .int _ _, _, _ | .bool _, _, _ | .str _, _, _ | .nilp, _, _ | .fn _, _, _ | .nilfn, _, _ | .nilm, _, _ | .yl _, _, _ | .nilifc, _, _ => by simp only [fitP]
theorem fit_relL : ∀ (ps : List PV) (vs : List Value), relL w I ps vs → fitL ps
  | [], _, _ => by simp only [fitL]
  | p :: ps, vs, h => by
    simp only [relL] at h
    obtain ⟨u, us, _, h1, h2⟩ := h
    simp only [fitL]; exact ⟨fit_rel p u h1, fit_relL ps us h2⟩
theorem fit_at : ∀ (ps : List PV) (b o : Nat), relAt w I b ps o → fitL ps
  | [], _, _, _ => by simp only [fitL]
  | p :: ps, b, o, h => by
    simp only [relAt] at h
    obtain ⟨⟨_, u, _, h1⟩, h2⟩ := h
    simp only [fitL]; exact ⟨fit_rel p u h1, fit_at ps b (o + 1) h2⟩
theorem fit_els : ∀ (es : List (List PV)) (sz b o : Nat), relEls w I sz b es o → fitE es
  | [], _, _, _, _ => by simp only [fitE]
  | c :: cs, sz, b, o, h => by
    simp only [relEls] at h
    obtain ⟨_, h1, h2⟩ := h
    simp only [fitE]; exact ⟨fit_at c b o h1, fit_els cs sz b (o + sz) h2⟩
end
theorem fitE_get : ∀ {es : List (List PV)} {i : Nat} {c : List PV}, fitE es → es[i]? = some c → fitL c
  | [], i, c, _, h => by simp at h
  | d :: ds, 0, c, h, e => by simp at e; subst e; exact h.1
  | d :: ds, i + 1, c, h, e => fitE_get h.2 (by simpa using e)
end
def fitA : AV → Prop
  | .pv p => fitP p
  | _ => True
def fitAL : List AV → Prop
  | [] => True
  | a :: l => fitA a ∧ fitAL l
theorem fitAL_rel {w : World} {I : Nat → Prop} {ι : Nat → Nat × Nat} : ∀ {args : List AV} {vs : List Value}, arelL w I ι args vs → fitAL args
  | [], _, _ => trivial
  | a :: l, vs, h => by
    simp only [arelL] at h
    obtain ⟨u, us, _, h1, h2⟩ := h
    refine ⟨?_, fitAL_rel h2⟩
    cases a <;> simp only [fitA]
    rename_i p
    simp only [arel] at h1
    exact fit_rel p u h1
theorem FnK.fit {P : Program} {f : FuncId} {args : List AV} {h : AHeap} {pin : Nat} {K : CR → AHeap → Prop} (he : Ent P f) (hc : fitAL args → FnK P f args h pin K) : FnK P f args h pin K :=
  ⟨he, fun G ι I w vs hI hr hl => (hc (fitAL_rel hr)).2 G ι I w vs hI hr hl⟩
theorem RefK.fit {P : Program} {f : FuncId} {args : List AV} {h : AHeap} {K : CR → AHeap → Prop} (he : Ent P f) (hc : fitAL args → RefK P f args h K) : RefK P f args h K := FnK.fit he hc
theorem Pure.fit {P : Program} {f : FuncId} {ps : List PV} {r : PV} (he : Ent P f) (hc : fitL ps → Pure P f ps r) : Pure P f ps r :=
  FnK.fit he fun hf => hc (by
    have : ∀ ps : List PV, fitAL (ps.map .pv) → fitL ps := fun ps => by
      induction ps with
      | nil => intro _; simp only [fitL]
      | cons p ps ih => intro h; simp only [List.map_cons, fitAL, fitA] at h; simp only [fitL]; exact ⟨h.1, ih h.2⟩
    exact this ps hf)

/-! ### 35. Numbers -/
theorem wrap_i64 {n : Int} (h : -9223372036854775808 ≤ n ∧ n ≤ 9223372036854775807) : IntKind.wrap .i64 n = n := by
  simp only [IntKind.wrap, IntKind.bits, IntKind.signed]
  first | omega | (simp; omega) | (split <;> omega)

/-! ### 36. Terms -/
inductive Tm where
  | mk (op : Int) (name : ByteArray) (n : Int) (a : List Tm)
def Tm.op : Tm → Int | .mk o _ _ _ => o
def Tm.name : Tm → ByteArray | .mk _ s _ _ => s
def Tm.n : Tm → Int | .mk _ _ n _ => n
def Tm.a : Tm → List Tm | .mk _ _ _ a => a
mutual
def Tm.cells : Tm → List PV
  | .mk o s n a => [.int .i64 o, .str s, .int .i64 n, .sl (Tm.cellsL a)]
def Tm.cellsL : List Tm → List (List PV)
  | [] => []
  | x :: r => x.cells :: Tm.cellsL r
end
theorem cellsL_map : ∀ a : List Tm, Tm.cellsL a = a.map Tm.cells
  | [] => rfl
  | x :: r => by simp only [Tm.cellsL, List.map_cons, cellsL_map r]
theorem Tm.cells_eq (t : Tm) : t.cells = [.int .i64 t.op, .str t.name, .int .i64 t.n, .sl (t.a.map Tm.cells)] := by
  cases t; simp only [Tm.cells, Tm.op, Tm.name, Tm.n, Tm.a, cellsL_map]
abbrev Tm.pv (t : Tm) : PV := .agg [.int .i64 t.op, .str t.name, .int .i64 t.n, .sl (t.a.map Tm.cells)]
mutual
def Tm.depth : Tm → Nat
  | .mk _ _ _ a => Tm.depthL a + 1
def Tm.depthL : List Tm → Nat
  | [] => 0
  | x :: r => max x.depth (Tm.depthL r)
end
theorem Tm.depth_eq (t : Tm) : t.depth = Tm.depthL t.a + 1 := by cases t; simp only [Tm.depth, Tm.a]
theorem Tm.depthL_app : ∀ a b : List Tm, Tm.depthL (a ++ b) = max (Tm.depthL a) (Tm.depthL b)
  | [], b => by simp [Tm.depthL]
  | x :: r, b => by simp only [List.cons_append, Tm.depthL, Tm.depthL_app r b]; omega
theorem Tm.depth_lt {t x : Tm} (h : x ∈ t.a) : x.depth < t.depth := by
  rw [Tm.depth_eq t]
  have : ∀ a : List Tm, x ∈ a → x.depth ≤ Tm.depthL a := fun a => by
    induction a with
    | nil => intro h; cases h
    | cons y r ih =>
      intro h
      simp only [Tm.depthL]
      rcases List.mem_cons.1 h with h | h
      · subst h; omega
      · have := ih h; omega
  have := this t.a h
  omega
end Go.Proofs.YtahamnipffckhaaDoor
