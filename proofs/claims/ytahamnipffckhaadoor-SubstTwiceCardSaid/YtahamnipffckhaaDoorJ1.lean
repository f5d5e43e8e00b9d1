import Derived.Test.YtahamnipffckhaaDoorF20
import Derived.ProofKit
import Derived.ChangeArms
import Derived.SizedLaws
import Derived.Test.YtahamnipffckhaaDoorRows
import Derived.OpenShut
import Derived.Carry
import Derived.Lay
import Derived.LaidOnce
import Derived.ChangeMaps5
set_option linter.unusedVariables false
set_option linter.unusedSimpArgs false
namespace Go.Proofs.YtahamnipffckhaaDoor
open Go Go.RowKit
/-! What comes in, opened: terms. -/
theorem mkTm {Q : Nat → Tm → Prop} : ∀ n, (∀ i, i < n → ∃ t, Q i t) → ∃ ts : List Tm, ts.length = n ∧ ∀ i t, ts[i]? = some t → Q i t
  | 0, _ => ⟨[], rfl, fun i t h => by simp at h⟩
  | n + 1, h => by
    obtain ⟨ts, h1, h2⟩ := mkTm n fun i hi => h i (by omega)
    obtain ⟨t, ht⟩ := h n (by omega)
    refine ⟨ts ++ [t], by simp [h1], fun i u hu => ?_⟩
    rcases Nat.lt_or_ge i ts.length with q | q
    · rw [List.getElem?_append_left q] at hu; exact h2 i u hu
    · rw [List.getElem?_append_right q] at hu
      have : i - ts.length = 0 := by
        have := (List.getElem?_eq_some_iff.1 hu).1
        simp at this; omega
      rw [this] at hu
      simp at hu
      subst hu
      rw [show i = n by omega]
      exact ht
section
variable {w : World} {I : Nat → Prop}
theorem relEls_of {sz b : Nat} : ∀ {es : List (List PV)} {o : Nat}, (∀ i c, es[i]? = some c → c.length = sz ∧ relAt w I b c (o + i * sz)) → relEls w I sz b es o
  | [], _, _ => by simp [relEls]
  | c :: es, o, h => by
    simp only [relEls]
    obtain ⟨h1, h2⟩ := h 0 c rfl
    refine ⟨h1, by simpa using h2, relEls_of fun i d hd => ?_⟩
    have := h (i + 1) d (by simpa using hd)
    rwa [Nat.add_mul, Nat.one_mul, Nat.add_comm (i * sz) sz, ← Nat.add_assoc] at this
theorem relAt_of {b : Nat} : ∀ {ps : List PV} {us : List Value} {o : Nat}, (∀ p ∈ ps, p.scalar = true) → relL w I ps us → (∀ j u, us[j]? = some u → w.cell? ⟨b, o + j, none⟩ = some u) → relAt w I b ps o
  | [], _, _, _, _, _ => by simp [relAt]
  | p :: ps, us, o, hs, hr, hc => by
    simp only [relL] at hr
    obtain ⟨u, us', rfl, h1, h2⟩ := hr
    simp only [relAt]
    refine ⟨⟨hs p (by simp), u, by simpa using hc 0 u rfl, h1⟩, relAt_of (fun q hq => hs q (by simp [hq])) h2 fun j v hv => ?_⟩
    have := hc (j + 1) v (by simpa using hv)
    rwa [show o + 1 + j = o + (j + 1) by omega]
end
theorem cells?_get {w : World} {base : Nat} {a : Addr} {n : Nat} {l : List Value} (h : w.cells? base a n = some l) : l.length = n ∧ ∀ i, i < n → ∃ v, l[i]? = some v ∧ w.cell? (a.add i) = some v := by
  unfold World.cells? at h
  split at h
  · have key : ∀ (is : List Nat) (l : List Value), (is.mapM fun i => w.cell? (a.add i)) = some l → l.length = is.length ∧ ∀ (j i : Nat), is[j]? = some i → ∃ v, l[j]? = some v ∧ w.cell? (a.add i) = some v := by
      intro is
      induction is with
      | nil => intro l h; simp at h; subst h; simp
      | cons i is ih =>
        intro l h
        simp only [List.mapM_cons, bind, Option.bind_eq_some_iff, pure, Option.some.injEq] at h
        obtain ⟨v, h1, vs, h2, rfl⟩ := h
        obtain ⟨k1, k2⟩ := ih vs h2
        refine ⟨by simp [k1], fun j k hk => ?_⟩
        cases j with
        | zero => simp at hk; subst hk; exact ⟨v, rfl, h1⟩
        | succ j => simpa using k2 j k (by simpa using hk)
    obtain ⟨k1, k2⟩ := key _ _ h
    exact ⟨by simpa using k1, fun i hi => k2 i i (by simp [hi])⟩
  · cases h
theorem st27 : (match Tryd.prog.underlying 27 with | some (.struct fs) => fs.toList.map (fun f => (f.type, f.offset)) | _ => []) = [(3, 0), (9, 1), (2, 2), (25, 3)] := by kernel_rfl
theorem cl27 : Tryd.prog.cellsOf 27 = 4 := by kernel_rfl
theorem cl3 : Tryd.prog.cellsOf 3 = 1 := by kernel_rfl
theorem cl9 : Tryd.prog.cellsOf 9 = 1 := by kernel_rfl
theorem cl2 : Tryd.prog.cellsOf 2 = 1 := by kernel_rfl
theorem cl25 : Tryd.prog.cellsOf 25 = 1 := by kernel_rfl
theorem by27 : Tryd.prog.bytesOf 27 = 56 := by kernel_rfl
theorem un25 : Tryd.prog.underlying 25 = some (.slice 27) := by kernel_rfl
theorem un3 : Tryd.prog.underlying 3 = some (.int .i64) := by kernel_rfl
theorem un2 : Tryd.prog.underlying 2 = some (.int .i64) := by kernel_rfl
theorem un9 : Tryd.prog.underlying 9 = some .string := by kernel_rfl
abbrev IW (W : World) : Nat → Prop := fun b => b < W.heap.size
theorem cells_scalar (t : Tm) : ∀ p ∈ t.cells, p.scalar = true := by
  rw [Tm.cells_eq]
  intro p hp
  simp only [List.mem_cons, List.not_mem_nil, or_false] at hp
  rcases hp with rfl | rfl | rfl | rfl <;> rfl
theorem wAll_mem {H : Type} {P : Program} {e : TypeId} {n : Nat} : ∀ {l : List (DataW H)} {d : DataW H}, d ∈ l → n ∈ d.weights P e → n ∈ DataW.weightsAll P e l
  | x :: l, d, h, hn => by
    simp only [DataW.weightsAll, List.mem_append]
    rcases List.mem_cons.1 h with q | q
    · subst q; exact .inl hn
    · exact .inr (wAll_mem q hn)
/-- A slice of terms, its elements opened. -/
theorem open_els {H : Type} {enc : TypeId × Value → H} {W : World} {sp : Nat → Bool} {held : Bool} {fuel : Nat}
    (ih : ∀ n, n < fuel → ∀ cs d ps, DataW.trod enc Tryd.prog W 0 sp held n 27 cs = some (d, ps) → (∀ n ∈ d.weights Tryd.prog 27, n ≤ reachBytes) → ∃ t : Tm, relL W (IW W) t.cells cs)
    {cs : List Value} {d : DataW H} {ps : List MemPlace} (h : DataW.trod enc Tryd.prog W 0 sp held fuel 25 cs = some (d, ps)) (hw : ∀ n ∈ d.weights Tryd.prog 25, n ≤ reachBytes) :
    ∃ (ts : List Tm) (v : Value), cs = [v] ∧ rel W (IW W) (.sl (ts.map Tm.cells)) v := by
  rcases DataW.trod_slice un25 h with ⟨rfl, _⟩ | ⟨a, len, cap, elems, rest, n, rfl, rfl, hx, _, h1, h2, h3, h4, _, _⟩
  · refine ⟨[], _, rfl, ?_⟩
    simp only [rel, List.map_nil]
    exact ⟨none, 0, rfl, Nat.le_refl _, by decide, .inl trivial⟩
  · obtain ⟨b, o, spot⟩ := a
    simp only [Prod.mk.injEq] at hx
    obtain ⟨rfl, _⟩ := hx
    simp only [DataW.weights, un25, by27, List.length_map, List.mem_cons, List.mem_append] at hw
    have hlen : len ≤ 140737488355328 := by
      have := hw _ (.inl rfl)
      simp only [reachBytes] at this
      omega
    rcases Nat.eq_zero_or_pos len with hz | hpos
    · subst hz
      refine ⟨[], _, rfl, ?_⟩
      simp only [rel, List.map_nil, List.length_nil]
      exact ⟨_, cap, rfl, h1, hlen, .inl trivial⟩
    have hget : ∀ i, i < len → ∃ t : Tm, ∃ cs' : List Value, relL W (IW W) t.cells cs' ∧ ∀ j, j < 4 → ∃ v, cs'[j]? = some v ∧ W.cell? (((⟨b, o, spot⟩ : Addr).add (i * 4)).add j) = some v := by
      intro i hi
      have e1 := h4 i hi
      rw [List.getElem?_eq_getElem (by omega), Option.bind_eq_some_iff] at e1
      obtain ⟨cs', c1, c2⟩ := e1
      rw [cl27] at c1
      obtain ⟨k1, k2⟩ := cells?_get c1
      obtain ⟨t, ht⟩ := ih n (by omega) cs' _ _ c2 fun m hm => hw m (.inr (.inl (wAll_mem (List.mem_map.2 ⟨_, List.getElem_mem (by omega), rfl⟩) hm)))
      exact ⟨t, cs', ht, k2⟩
    have hsp : spot = none ∧ b < W.heap.size := by
      obtain ⟨t, cs', _, k2⟩ := hget 0 hpos
      obtain ⟨v, _, hv⟩ := k2 0 (by omega)
      simp only [Nat.zero_mul, Addr.add, if_true] at hv
      unfold World.cell? at hv
      split at hv
      · rename_i hb
        simp only at hv hb
        refine ⟨?_, (Array.getElem?_eq_some_iff.1 hb).1⟩
        cases spot with
        | none => rfl
        | some x => simp at hv
      · cases hv
    obtain ⟨rfl, hb⟩ := hsp
    have hadd : ∀ i j : Nat, ((⟨b, o, none⟩ : Addr).add (i * 4)).add j = ⟨b, o + i * 4 + j, none⟩ := by
      intro i j
      unfold Addr.add
      by_cases e1 : i * 4 = 0
      · by_cases e2 : j = 0
        · simp [e1, e2]
        · simp [e1, e2]
      · by_cases e2 : j = 0
        · simp [e1, e2]
        · simp [e1, e2]
    obtain ⟨ts, t1, t2⟩ := mkTm (Q := fun i t => ∃ cs' : List Value, relL W (IW W) t.cells cs' ∧ ∀ j, j < 4 → ∃ v, cs'[j]? = some v ∧ W.cell? (((⟨b, o, none⟩ : Addr).add (i * 4)).add j) = some v) len hget
    refine ⟨ts, _, rfl, ?_⟩
    simp only [rel, List.length_map]
    refine ⟨some ⟨b, o, none⟩, cap, by rw [t1], by omega, by omega, .inr ⟨b, o, 4, rfl, hb, relEls_of fun i c hc => ?_⟩⟩
    rw [List.getElem?_map, Option.map_eq_some_iff] at hc
    obtain ⟨t, ht, rfl⟩ := hc
    obtain ⟨cs', r1, r2⟩ := t2 i t ht
    refine ⟨by rw [Tm.cells_eq]; rfl, relAt_of (cells_scalar t) r1 fun j u hu => ?_⟩
    have hl4 : cs'.length = 4 := by
      have := relL_length r1
      rw [Tm.cells_eq] at this
      simpa using this
    have hj : j < 4 := by have := (List.getElem?_eq_some_iff.1 hu).1; omega
    obtain ⟨v, v1, v2⟩ := r2 j hj
    rw [hu] at v1
    cases v1
    rwa [hadd] at v2
set_option maxRecDepth 20000 in
theorem open_tm {H : Type} {enc : TypeId × Value → H} {W : World} {sp : Nat → Bool} {held : Bool} : ∀ (fuel : Nat) (cs : List Value) (d : DataW H) (ps : List MemPlace), DataW.trod enc Tryd.prog W 0 sp held fuel 27 cs = some (d, ps) → (∀ n ∈ d.weights Tryd.prog 27, n ≤ reachBytes) → ∃ t : Tm, relL W (IW W) t.cells cs := by
  intro fuel
  induction fuel using Nat.strongRecOn with
  | _ fuel ih =>
    intro cs d ps h hw
    have hs := st27
    cases hu : Tryd.prog.underlying 27 with
    | none => rw [hu] at hs; simp at hs
    | some td =>
      rw [hu] at hs
      cases td with
      | struct fs =>
        obtain ⟨xs, n, rfl, hx, hcl, hxl, hf⟩ := DataW.trod_struct hu h
        obtain ⟨fl⟩ := fs
        simp only at hs
        match fl, hs with
        | [f0, f1, f2, f3], hs =>
          simp only [List.map_cons, List.map_nil, List.cons.injEq, Prod.mk.injEq, and_true] at hs
          obtain ⟨⟨a0, b0⟩, ⟨a1, b1⟩, ⟨a2, b2⟩, a3, b3⟩ := hs
          rw [cl27] at hcl
          match cs, hcl with
          | [v0, v1, v2, v3], _ =>
            have g0 := hf 0 f0 rfl
            have g1 := hf 1 f1 rfl
            have g2 := hf 2 f2 rfl
            have g3 := hf 3 f3 rfl
            rw [a0, b0, cl3] at g0
            rw [a1, b1, cl9] at g1
            rw [a2, b2, cl2] at g2
            rw [a3, b3, cl25] at g3
            match xs, hxl with
            | [x0, x1, x2, x3], _ =>
              simp only [Prod.mk.injEq, List.map_cons, List.map_nil] at hx
              obtain ⟨rfl, _⟩ := hx
              obtain ⟨op, e0, _, _⟩ := DataW.trod_int un3 (show DataW.trod enc Tryd.prog W 0 sp held n 3 [v0] = some x0 from g0)
              obtain ⟨nm, e1, _, _⟩ := DataW.trod_string un9 (show DataW.trod enc Tryd.prog W 0 sp held n 9 [v1] = some x1 from g1)
              obtain ⟨k, e2, _, _⟩ := DataW.trod_int un2 (show DataW.trod enc Tryd.prog W 0 sp held n 2 [v2] = some x2 from g2)
              obtain ⟨d3, p3⟩ := x3
              obtain ⟨ts, v, e3, hv⟩ := open_els (fuel := n) (fun m hm cs d ps h hw => ih m (by omega) cs d ps h hw) (show DataW.trod enc Tryd.prog W 0 sp held n 25 [v3] = some (d3, p3) from g3) (fun m hm => hw m (by
                simp only [DataW.weights, hu, List.map_cons, List.map_nil, DataW.weightsEach, List.mem_append, a0, a1, a2, a3]
                simp [hm]))
              simp only [List.cons.injEq, and_true] at e0 e1 e2 e3
              subst e0; subst e1; subst e2; subst e3
              refine ⟨.mk op nm k ts, ?_⟩
              simp only [Tm.cells_eq, Tm.op, Tm.name, Tm.n, Tm.a, relL, rel]
              simp only [rel] at hv
              exact ⟨_, _, rfl, rfl, _, _, rfl, rfl, _, _, rfl, rfl, _, _, rfl, hv, rfl⟩
      | _ => simp at hs
open Go Go.RowKit Go.ChangeShapes Go.WideShapes Go.ChangeAt Go.ChangeMaps
/-! From the contract to the row. -/
theorem law_call {f : FuncId} {ps : List PV} {vs : List Value} {W : World} (hp : Pure Tryd.prog f ps (.bool true)) (hr : relL W (IW W) ps vs) : Calls Tryd.prog f vs.toArray W fun e W' => e = .returned (.bool true) ∧ Below W.heap.size W W' := by
  have hI : Inv ⟨W, fun _ => False, IW W⟩ (fun _ => (0, 0)) (IW W) [] W :=
    ⟨rfl, rfl, ⟨rfl, Nat.le_refl _⟩, Nat.le_refl _, fun _ _ _ => rfl, fun _ x => x, fun b x => ⟨x, .inl x⟩, fun id o ho => by simp at ho, fun id o ho => by simp at ho, fun i j oi oj hi => by simp at hi⟩
  refine (hp.2 _ _ _ W vs hI (arelL_map_pv.1 hr) (ltL_pv _ _)).mono ?_
  intro en w' hq
  cases en with
  | returned v =>
    obtain ⟨ι', I', r, h', k1, k2, k3, k4, k5, k6⟩ := hq
    cases k6
    simp only [arel, rel] at k4
    exact ⟨by rw [k4], ⟨k1.os, k1.tape, k1.output.1, k1.size, fun k hk => k1.frame k hk (fun h => h)⟩⟩
  | panicked ch =>
    obtain ⟨_, _, _, _, _, _, _, _, _, _, k6⟩ := hq
    cases k6
  | outgrown => exact hq.elim
theorem own : ownKnob Tryd.prog.godebug = none := by kernel_rfl
theorem und4 : Tryd.prog.underlying 4 = some .bool := by kernel_rfl
set_option maxRecDepth 100000 in
theorem open_terms {H : Type} {enc : TypeId × Value → H} {W : World} {sp : Nat → Bool} {held : Bool} {r : Reach} {b0 : Nat} {v : Value} {d : DataW H} {ps : List MemPlace} (hv : Value.okWide Tryd.prog W r b0 25 v) (h : DataW.Trod enc Tryd.prog W 0 sp held 25 v d ps) (hw : ∀ n ∈ d.weights Tryd.prog 25, n ≤ reachBytes) :
    ∃ ts : List Tm, rel W (IW W) (.sl (ts.map Tm.cells)) v := by
  obtain ⟨fuel, h⟩ := h
  obtain ⟨ts, u, e, hu⟩ := open_els (fun n _ cs d ps h hw => open_tm n cs d ps h hw) h hw
  obtain ⟨a, len, cap, rfl⟩ := okWide_slice un25 hv
  simp only [Value.cells, List.cons.injEq, and_true] at e
  subst e
  exact ⟨ts, hu⟩
set_option maxRecDepth 100000 in
theorem open_term {H : Type} {enc : TypeId × Value → H} {W : World} {sp : Nat → Bool} {held : Bool} {r : Reach} {b0 : Nat} {v : Value} {d : DataW H} {ps : List MemPlace} (hv : Value.okWide Tryd.prog W r b0 27 v) (h : DataW.Trod enc Tryd.prog W 0 sp held 27 v d ps) (hw : ∀ n ∈ d.weights Tryd.prog 27, n ≤ reachBytes) :
    ∃ t : Tm, rel W (IW W) t.pv v := by
  obtain ⟨fuel, h⟩ := h
  obtain ⟨t, ht⟩ := open_tm fuel _ _ _ h hw
  have hs := st27
  cases hu : Tryd.prog.underlying 27 with
  | none => rw [hu] at hs; simp at hs
  | some td =>
    rw [hu] at hs
    cases td with
    | struct fs =>
      obtain ⟨cs, rfl, _⟩ := okWide_struct hu hv
      refine ⟨t, ?_⟩
      simp only [Value.cells] at ht
      simp only [Tm.pv, rel]
      exact ⟨cs.toList, by simp, by rw [← Tm.cells_eq]; exact cells_scalar t, by rw [← Tm.cells_eq]; exact ht⟩
    | _ => simp at hs
theorem weights_at {H : Type} {P : Program} {ts : List TypeId} {ds : List (DataW H)} (h : (DataW.weightsEach P ts ds).all (· ≤ reachBytes) = true) {j : Nat} {t : TypeId} {d : DataW H} (ht : ts[j]? = some t) (hd : ds[j]? = some d) : ∀ n ∈ d.weights P t, n ≤ reachBytes := fun n hn => by
  have := List.all_eq_true.1 h n (DataW.weights_mem_each ht hd n hn)
  simpa using this
end Go.Proofs.YtahamnipffckhaaDoor
