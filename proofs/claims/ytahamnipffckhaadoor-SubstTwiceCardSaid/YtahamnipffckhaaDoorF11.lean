import Derived.Test.YtahamnipffckhaaDoorF10
import Derived.Test.YtahamnipffckhaaDoorSo
import Derived.Shelf.SlSortCmp.NoneTotal
set_option linter.unusedVariables false
set_option linter.unusedSimpArgs false
namespace Go.Proofs.YtahamnipffckhaaDoor
open Go Go.RowKit Go.Sort
/-! slices.SortFunc of names. -/
section
variable {w : World} {I : Nat → Prop}
theorem relL_of_get : ∀ {c : List PV} {l : List Value}, c.length = l.length → (∀ (j : Nat) p, c[j]? = some p → ∃ u, l[j]? = some u ∧ rel w I p u) → relL w I c l
  | [], [], _, _ => by simp [relL]
  | p :: c, v :: l, h, hg => by
    simp only [relL]
    obtain ⟨u, h1, h2⟩ := hg 0 p rfl
    simp at h1; subst h1
    exact ⟨v, l, rfl, h2, relL_of_get (by simpa using h) fun j q hq => by simpa using hg (j + 1) q (by simpa using hq)⟩
  | [], _ :: _, h, _ => by simp at h
  | _ :: _, [], h, _ => by simp at h
theorem arrRel_of_get {sz : Nat} : ∀ {es : List (List PV)} {vs : List Value}, es.length * sz ≤ vs.length →
    (∀ (i : Nat) c, es[i]? = some c → c.length = sz ∧ (∀ p ∈ c, p.scalar = true) ∧ ∀ (j : Nat) p, c[j]? = some p → ∃ u, vs[i * sz + j]? = some u ∧ rel w I p u) → arrRel w I sz es vs
  | [], _, _, _ => trivial
  | c :: es, vs, hl, hg => by
    simp only [List.length_cons, Nat.add_mul, Nat.one_mul] at hl
    obtain ⟨h1, h2, h3⟩ := hg 0 c rfl
    refine ⟨h1, by omega, h2, relL_of_get (by rw [List.length_take]; omega) fun j p hj => ?_, arrRel_of_get (by rw [List.length_drop]; omega) fun i d hd => ?_⟩
    · obtain ⟨u, k1, k2⟩ := h3 j p hj
      have : j < c.length := (List.getElem?_eq_some_iff.1 hj).1
      exact ⟨u, by rw [List.getElem?_take_of_lt (by omega)]; simpa using k1, k2⟩
    · obtain ⟨k1, k2, k3⟩ := hg (i + 1) d (by simpa using hd)
      refine ⟨k1, k2, fun j p hj => ?_⟩
      obtain ⟨u, q1, q2⟩ := k3 j p hj
      refine ⟨u, ?_, q2⟩
      rw [List.getElem?_drop, show sz + (i * sz + j) = (i + 1) * sz + j by rw [Nat.add_mul]; omega]
      exact q1
end
/-- An entry as it lies: with whatever address its empty slice has. -/
abbrev Ent0 := (ByteArray × Int) × (Option Addr × Nat)
def encE (x : Ent0) : List Value := [.string x.1.1, .int .i64 x.1.2, .string x.1.1, .int .i64 0, .slice x.2.1 0 x.2.2]
theorem encE_len (x : Ent0) : (encE x).length = 5 := rfl
theorem encE_rel (w : World) (I : Nat → Prop) (x : Ent0) : relL w I (entP x.1) (encE x) := by
  simp only [entP, encE, relL, rel]
  exact ⟨_, _, rfl, rfl, _, _, rfl, rfl, _, _, rfl, rfl, _, _, rfl, rfl, _, _, rfl, ⟨x.2.1, x.2.2, rfl, Nat.zero_le _, Nat.zero_le _, .inl trivial⟩, rfl⟩
theorem entP_scalar (x : ByteArray × Int) : ∀ p ∈ entP x, p.scalar = true := by
  intro p hp
  simp only [entP, List.mem_cons, List.not_mem_nil, or_false] at hp
  rcases hp with rfl | rfl | rfl | rfl | rfl <;> rfl
theorem relL_entP {w : World} {I : Nat → Prop} {x : ByteArray × Int} {vs : List Value} (h : relL w I (entP x) vs) : ∃ a, vs = encE (x, a) := by
  simp only [entP, relL, rel] at h
  obtain ⟨_, _, rfl, rfl, _, _, rfl, rfl, _, _, rfl, rfl, _, _, rfl, rfl, _, _, rfl, ⟨A, cap, rfl, _⟩, rfl⟩ := h
  exact ⟨(A, cap), rfl⟩
theorem flat_get : ∀ (dl : List Ent0) (t : Nat), t < dl.length * 5 → (dl.flatMap encE)[t]? = some ((encE dl[t / 5]!)[t % 5]!)
  | [], t, h => by simp at h
  | x :: dl, t, h => by
    rw [List.flatMap_cons]
    by_cases ht : t < 5
    · rw [List.getElem?_append_left (by simpa [encE] using ht)]
      have h1 : t / 5 = 0 := by omega
      have h2 : t % 5 = t := by omega
      rw [h1, h2]
      have : t < (encE x).length := by simpa [encE] using ht
      rw [List.getElem?_eq_getElem this]
      simp only [List.getElem!_cons_zero]
      rw [getElem!_pos (encE x) t this]
    · rw [List.getElem?_append_right (by simp [encE]; omega)]
      have e1 : t - (encE x).length = t - 5 := by simp [encE]
      rw [e1, flat_get dl (t - 5) (by simp only [List.length_cons, Nat.add_mul] at h; omega)]
      have h1 : t / 5 = (t - 5) / 5 + 1 := by omega
      have h2 : t % 5 = (t - 5) % 5 := by omega
      rw [h1, h2, List.getElem!_cons_succ]
theorem flatK_get (dl : List Ent0) (t : Nat) (h : t < dl.length * 5) : (flatK encE 5 dl.toArray)[t]! = (encE dl[t / 5]!)[t % 5]! := by
  rw [get_flatK encE 5 dl.toArray t (by simpa using h)]
  simp
theorem arr_ents {w : World} {I : Nat → Prop} : ∀ {es : List (ByteArray × Int)} {vs : List Value}, arrRel w I 5 (es.map entP) vs → ∃ dl : List Ent0, dl.map (·.1) = es ∧ vs.take (es.length * 5) = dl.flatMap encE
  | [], vs, _ => ⟨[], rfl, by simp⟩
  | x :: es, vs, h => by
    obtain ⟨h1, h2, h3, h4, h5⟩ := h
    obtain ⟨a, ha⟩ := relL_entP h4
    obtain ⟨dl, d1, d2⟩ := arr_ents h5
    refine ⟨(x, a) :: dl, by simp [d1], ?_⟩
    rw [List.flatMap_cons, ← ha, ← d2, List.length_cons, Nat.add_mul, Nat.one_mul, Nat.add_comm, List.take_add]
def cfE (x y : Ent0) : Int := cmpN x.1 y.1
theorem ltOf_cfE (x y : Ent0) : ltOf cfE x y = true ↔ ltN x.1 y.1 := by
  unfold ltOf cfE
  rw [decide_eq_true_eq, cmpN_neg]
theorem swoE : SWO (ltOf cfE) where
  irrefl x := by
    rw [← Bool.not_eq_true, ltOf_cfE]
    exact ltN_irrefl _
  trans x y z h1 h2 := by
    rw [ltOf_cfE] at *
    exact ltN_trans h1 h2
  ntrans x y z h1 h2 := by
    rw [← Bool.not_eq_true, ltOf_cfE] at *
    intro h3
    by_cases e1 : x.1 = y.1
    · rw [e1] at h3; exact h2 h3
    · exact h2 (ltN_trans (ltN_tri h1 e1) h3)
theorem world_grown {W w' : World} (h1 : w'.os = W.os) (h2 : w'.tape = W.tape) (h3 : w'.output = W.output) (h4 : W.drawn ≤ w'.drawn) (h5 : W.heap.size ≤ w'.heap.size) (h6 : ∀ b, b < W.heap.size → w'.heap[b]? = W.heap[b]?) :
    ∃ q os', w' = grow (W.drewN q) os' := by
  refine ⟨w'.drawn - W.drawn, w'.heap.extract W.heap.size w'.heap.size, ?_⟩
  obtain ⟨H', T', D', O', U'⟩ := w'
  obtain ⟨H, T, D, O, U⟩ := W
  simp only at *
  subst h1; subst h2; subst h3
  have e1 : H' = H ++ H'.extract H.size H'.size := by
    apply Array.ext_getElem?
    intro i
    rw [Array.getElem?_append]
    split
    · rename_i hi; exact h6 i hi
    · rename_i hi
      rw [Array.getElem?_extract]
      simp only [Nat.min_self]
      by_cases hb : i - H.size < H'.size - H.size
      · rw [if_pos hb]; congr 1; omega
      · rw [if_neg hb, Array.getElem?_eq_none (by omega)]
  have e2 : D' = D + (D' - D) := by omega
  unfold grow World.drewN
  simp only
  congr 1
theorem cmp_lays (blk off size : Nat) (w : World) : CmpLays Tryd.prog 47 #[] encE 5 cfE blk off size w := by
  intro m os dk hdk x y
  generalize sortWorldK encE 5 w blk off m dk os = W
  have hf := cmpN_pure x.1 y.1
  have hI : Inv ⟨W, fun _ => False, fun _ => False⟩ (fun _ => (0, 0)) (fun _ => False) [] W :=
    ⟨rfl, rfl, ⟨rfl, Nat.le_refl _⟩, Nat.le_refl _, fun _ _ _ => rfl, fun _ h => h, fun _ h => h.elim, fun id o ho => by simp at ho, fun id o ho => by simp at ho, fun i j oi oj hi => by simp at hi⟩
  have hargs : arelL W (fun _ => False) (fun _ => (0, 0)) ([PV.agg (entP x.1), PV.agg (entP y.1)].map AV.pv) [.agg (encE x).toArray, .agg (encE y).toArray] := by
    simp only [List.map_cons, List.map_nil, arelL, arel, rel]
    exact ⟨_, _, rfl, ⟨_, rfl, entP_scalar _, encE_rel W _ x⟩, _, _, rfl, ⟨_, rfl, entP_scalar _, encE_rel W _ y⟩, rfl⟩
  refine (hf.2 _ _ _ W _ hI hargs (ltL_pv _ _)).mono ?_
  intro en w' hq
  cases en with
  | returned v =>
    obtain ⟨ι', I', r, h', k1, k2, k3, k4, k5, k6⟩ := hq
    cases k6
    simp only [arel, rel] at k4
    subst k4
    exact ⟨rfl, world_grown k1.os k1.tape k1.output.1 k1.output.2 k1.size fun b hb => k1.frame b hb (fun h => h)⟩
  | panicked ch =>
    obtain ⟨ι', I', p, v, h', k0, k1, k2, k3, k4, k5⟩ := hq
    cases k5
  | outgrown => exact hq.elim
theorem sort_call {h : AHeap} {ix0 : Nat} {es : List (ByteArray × Int)} {K : Bool → CR → AHeap → Prop} (hid : h[ix0]? = some (.arr 52 5 (es.map entP)))
    (hK : ∀ es' : List (ByteArray × Int), es'.Perm es → es'.Pairwise (fun a b => ¬ ltN b a) → K true (.ret (.tup [])) (h.set ix0 (.arr 52 5 (es'.map entP)))) :
    CallZ Tryd.prog 51 [.osl ix0 es.length, .pv (.fn 47)] h K := by
  refine ⟨ent_of Tryd.func51 rfl (by rfl), fun G ι I w vs hI hr hl => ?_⟩
  simp only [arelL, arel, rel] at hr
  obtain ⟨v0, _, rfl, hs, _, _, rfl, rfl, rfl⟩ := hr
  have hlen : ix0 < h.length := (List.getElem?_eq_some_iff.1 hid).1
  have hset : ∀ es' : List (ByteArray × Int), es' = es → h.set ix0 (.arr 52 5 (es'.map entP)) = h := by
    rintro _ rfl
    apply List.ext_getElem?
    intro j
    by_cases e1 : j = ix0
    · subst e1; rw [List.getElem?_set_self hlen, hid]
    · rw [List.getElem?_set_ne (fun q => e1 q.symm)]
  by_cases hes : es = []
  · -- nothing to sort
    have hv : ∃ p cap, v0 = .slice p 0 cap := by
      subst hes
      rcases hs with ⟨rfl, _⟩ | ⟨rfl, _⟩ <;> exact ⟨_, _, rfl⟩
    obtain ⟨p, cap, rfl⟩ := hv
    refine (show Calls Tryd.prog 51 #[.slice p 0 cap, .func (.func 47) #[] #[]] w _ from AnyF.slices_SortFunc_none Tryd.laysSort p cap _ w).mono ?_
    rintro e w' ⟨rfl, rfl⟩
    refine ⟨ι, I, .tup [], h, hI, Ext.refl _ _ _ _, Nat.le_refl _, by simp only [arel, arelL]; exact ⟨[], rfl, rfl⟩, trivial, ?_⟩
    have := hK es (List.Perm.refl _) (by rw [hes]; exact List.Pairwise.nil)
    rwa [hset es rfl] at this
  · obtain ⟨_, hob⟩ := hI.obj ix0 _ hid
    rcases hob with ⟨k0, k1⟩ | ⟨k0, vals, k1, k2, k3, k4, k5, k6⟩
    · simp at k1; exact absurd k1 hes
    rcases hs with ⟨_, h0, _⟩ | ⟨rfl, _, _⟩
    · exact absurd (List.eq_nil_of_length_eq_zero h0) hes
    have hlv : (AObj.arr 52 5 (es.map entP)).live (ι ix0).2 = true := by simpa [AObj.live] using k0
    obtain ⟨o1, o2, o3⟩ := hI.own ix0 _ hid hlv
    obtain ⟨dl, d1, d2⟩ := arr_ents k6
    have hdl : dl.length = es.length := by rw [← d1, List.length_map]
    have hvl := arrRel_length k6
    rw [List.length_map] at hvl k5
    have hcell : ∀ t, t < es.length * 5 → vals[t]? = some ((encE dl[t / 5]!)[t % 5]!) := by
      intro t ht
      have := flat_get dl t (by rw [hdl]; exact ht)
      rw [← d2, List.getElem?_take_of_lt ht] at this
      exact this
    have hH : HoldsK encE 5 w (ι ix0).1 0 dl.toArray := by
      intro j hj
      have hj' : j < es.length * 5 := by simpa [hdl] using hj
      constructor
      · simp only [World.cell?, k1, Nat.zero_add, id_eq]
        rw [flatK_get dl j (by rw [hdl]; exact hj')]
        simpa using hcell j hj'
      · simp [World.frozen?, k1]
    have hc := AnyQ.slices_SortFunc Tryd.laysSort 5 (fun w => Tryd.isAgg52 w) (fun w => Tryd.sizeOf52 w) encE encE_len (fun x v hv => by
      simp only [encE, List.mem_cons, List.not_mem_nil, or_false] at hv
      rcases hv with rfl | rfl | rfl | rfl | rfl <;> rfl) cfE swoE 47 #[] (ι ix0).1 0 ((ι ix0).2 - 1) dl.toArray w (ent_of Tryd.func47 rfl (by rfl)) (cmp_lays _ _ _ _) hH o1 (by simp [hdl]; omega)
    rw [show dl.toArray.size = es.length by simp [hdl]] at hc
    refine (show Calls Tryd.prog 51 #[.slice (some ⟨(ι ix0).1, 0, none⟩) es.length ((ι ix0).2 - 1), .func (.func 47) #[] #[]] w _ from hc).mono ?_
    rintro e w' ⟨rfl, d', n, os, hperm, hsort, rfl⟩
    obtain ⟨p1, p2, p3⟩ := hperm
    have hd' : d'.size = es.length := by rw [p1]; simp [hdl]
    have hd'l : d'.toList.length = es.length := by rw [Array.length_toList]; exact hd'
    have perm : d'.toList.Perm dl := by
      rw [← hd', show d'.extract 0 d'.size = d' by simp] at p3
      rw [hd', ← hdl, show dl.toArray.extract 0 dl.length = dl.toArray by simp] at p3
      exact p3
    have hes' : (d'.toList.map (·.1)).Perm es := by rw [← d1]; exact perm.map _
    have hsorted : (d'.toList.map (·.1)).Pairwise (fun a b => ¬ ltN b a) := by
      rw [List.pairwise_iff_getElem]
      intro i j hi hj hij
      simp only [List.length_map] at hi hj
      have := hsort i j (Nat.zero_le _) hij (by omega)
      rw [← Bool.not_eq_true, ltOf_cfE] at this
      simp only [List.getElem_map]
      rw [getElem!_pos d' i (by omega), getElem!_pos d' j (by omega)] at this
      simpa using this
    -- the world behind
    obtain ⟨w1, hw1⟩ : ∃ w1, putRowK encE 5 (Go.Sort.ahead w n) (ι ix0).1 0 d' = w1 := ⟨_, rfl⟩
    have hb1 : w1.heap[(ι ix0).1]? = some (.cells (putCells id 0 (flatK encE 5 d') vals.toArray) 52 (0, 0)) := by
      rw [← hw1]
      simp only [putRowK, putRow, mapBlock, Array.getElem?_modify, heap_ahead, k1, if_true, Option.map_some, onCells]
    have hfar : ∀ b, b ≠ (ι ix0).1 → w1.heap[b]? = w.heap[b]? := by
      intro b hb
      rw [← hw1]
      simp only [putRowK, putRow, mapBlock, Array.getElem?_modify, heap_ahead]
      rw [if_neg (fun e => hb e.symm)]
    obtain ⟨i1, i2⟩ := hI.write (o' := .arr 52 5 ((d'.toList.map (·.1)).map entP)) (w' := w1) hid hlv (by rw [← hw1]; rfl) (by rw [← hw1]; rfl) (by rw [← hw1]; exact ⟨rfl, Nat.le_add_right _ _⟩) (by rw [← hw1]; simp [putRowK, putRow, mapBlock]) hfar trivial (by
      have hpc : ∀ t, (putCells id 0 (flatK encE 5 d') vals.toArray).toList[t]? = if t < es.length * 5 then some ((encE d'.toList[t / 5]!)[t % 5]!) else vals[t]? := by
        intro t
        simp only [putCells, Array.toList_mapIdx, List.getElem?_mapIdx, Nat.zero_le, true_and, Nat.zero_add, size_flatK, hd', Nat.sub_zero, id_eq]
        by_cases ht : t < es.length * 5
        · rw [hcell t ht]
          simp only [ht, if_true, Option.map_some]
          congr 1
          have := flatK_get d'.toList t (by rw [hd'l]; exact ht)
          simpa using this
        · simp only [ht, if_false]
          cases vals[t]? <;> rfl
      have hpl : (putCells id 0 (flatK encE 5 d') vals.toArray).toList.length = vals.length := by simp [putCells]
      refine .inr ⟨k0, (putCells id 0 (flatK encE 5 d') vals.toArray).toList, by simpa using hb1, by rw [hpl]; exact k2, by simp only [List.length_map] at k3 ⊢; omega, k4, by simp only [List.length_map]; omega, arrRel_of_get ?_ ?_⟩
      · simp only [List.length_map, hpl]; omega
      · intro i c hi
        rw [List.map_map, List.getElem?_map] at hi
        cases hx : d'.toList[i]? with
        | none => simp [hx] at hi
        | some x =>
          simp only [hx, Option.map_some, Option.some.injEq, Function.comp_apply] at hi
          subst hi
          have hil : i < es.length := by have := (List.getElem?_eq_some_iff.1 hx).1; omega
          refine ⟨rfl, entP_scalar _, fun j p hj => ?_⟩
          have hj5 : j < 5 := (List.getElem?_eq_some_iff.1 hj).1
          obtain ⟨u, u1, u2⟩ := relL_get (encE_rel w1 I x) hj
          refine ⟨u, ?_, u2⟩
          rw [hpc, if_pos (by omega)]
          have e1 : (i * 5 + j) / 5 = i := by omega
          have e2 : (i * 5 + j) % 5 = j := by omega
          rw [e1, e2]
          have e3 : d'.toList[i]! = x := by
            have hil' := (List.getElem?_eq_some_iff.1 hx).1
            rw [getElem!_pos d'.toList i hil']
            exact (List.getElem?_eq_some_iff.1 hx).2
          rw [e3]
          have hj' : j < (encE x).length := by simpa [encE] using hj5
          rw [getElem!_pos (encE x) j hj']
          rw [List.getElem?_eq_getElem hj'] at u1
          exact u1)
    have hbel : Go.RowKit.Below w1.heap.size w1 (grow w1 os) := ⟨rfl, rfl, rfl, by simp, fun b hb => by simp only [grow]; rw [Array.getElem?_append_left hb]⟩
    obtain ⟨j1, j2⟩ := i1.grow (I' := I) hbel (Nat.le_refl _) (fun _ x => x) (fun _ x => .inl x)
    have hw2 : sortWorldK encE 5 w (ι ix0).1 0 n d' os = grow w1 os := by rw [← hw1]; rfl
    rw [hw2]
    refine ⟨ι, I, .tup [], _, j1, i2.trans j2 (by simp), by simp, by simp only [arel, arelL]; exact ⟨[], rfl, rfl⟩, trivial, hK _ hes' hsorted⟩
end Go.Proofs.YtahamnipffckhaaDoor
