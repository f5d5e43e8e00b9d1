import Derived.Test.YtahamnipffckhaaDoorAm5
set_option linter.unusedVariables false
set_option linter.unusedSimpArgs false
namespace Go.Proofs.YtahamnipffckhaaDoor
open Go Go.RowKit

/-! ### 13. append -/
section
variable {P : Program} {G : Ghost} {ι : Nat → Nat × Nat} {I : Nat → Prop} {h : AHeap} {w : World}
theorem Inv.grow_but {w' : World} (hI : Inv G ι I h w) (b : Nat) (hbI : ¬ I b) (hbO : G.O b ∨ G.w0.heap.size ≤ b) (hfree : ∀ i oi, h[i]? = some oi → oi.live (ι i).2 = true → (ι i).1 ≠ b) (hg : w.grownBy w' (some b)) (hd : w.drawn ≤ w'.drawn) :
    Inv G ι I h w' ∧ Ext I I ι ι h.length w w' := by
  have hk : ∀ k, k < w.heap.size → k ≠ b → w'.heap[k]? = w.heap[k]? := fun k h1 h2 => hg.block k h1 (fun e => h2 (Option.some.inj e))
  have hE : Ext I I ι ι h.length w w' := ⟨fun _ x => x, fun k hk' => hk k (hI.bound k hk').1 (fun e => hbI (e ▸ hk')), fun _ _ => rfl⟩
  refine ⟨⟨hg.os.trans hI.os, hg.tape.trans hI.tape, ⟨hg.output.trans hI.output.1, Nat.le_trans hI.output.2 hd⟩, Nat.le_trans hI.size hg.size, fun k h1 h2 => ?_, hI.sub, fun k h1 => ⟨Nat.lt_of_lt_of_le (hI.bound k h1).1 hg.size, (hI.bound k h1).2⟩, fun id o ho => ?_, fun id o ho hl => ?_, hI.inj⟩, hE⟩
  · have hne : k ≠ b := fun e => by subst e; rcases hbO with h3 | h3; exact h2 h3; omega
    exact (hk k (Nat.lt_of_lt_of_le h1 hI.size) hne).trans (hI.frame k h1 h2)
  · obtain ⟨h1, h2⟩ := hI.obj id o ho
    exact ⟨h1, objRel_ext hE (fun hl => hk _ (hI.own id o ho hl).1 (hfree id o ho hl)) h1 h2⟩
  · obtain ⟨h1, h2, h3⟩ := hI.own id o ho hl
    exact ⟨Nat.lt_of_lt_of_le h1 hg.size, h2, h3⟩
theorem relAt_vals {b : Nat} : ∀ {c : List PV} {o : Nat}, relAt w I b c o → ∃ vs, vs.length = c.length ∧ relL w I c vs ∧ (∀ p ∈ c, p.scalar = true) ∧ ∀ j u, vs[j]? = some u → w.cell? ⟨b, o + j, none⟩ = some u ∧ u.oneCell' = true
  | [], o, _ => ⟨[], rfl, by simp [relL], by simp, by simp⟩
  | p :: c, o, h => by
    simp only [relAt] at h
    obtain ⟨⟨h0, u, h1, h2⟩, h3⟩ := h
    obtain ⟨vs, k1, k2, k3, k4⟩ := relAt_vals h3
    refine ⟨u :: vs, by simp [k1], ?_, fun q hq => ?_, fun j v hv => ?_⟩
    · simp only [relL]; exact ⟨u, vs, rfl, h2, k2⟩
    · rcases List.mem_cons.1 hq with e | e
      · subst e; exact h0
      · exact k3 q e
    · cases j with
      | zero => simp at hv; subst hv; exact ⟨by simpa using h1, rel_oneCell h2 h0⟩
      | succ j =>
        have := k4 j v (by simpa using hv)
        rwa [show o + (j + 1) = o + 1 + j by omega]
theorem relEls_vals {sz b : Nat} : ∀ {es : List (List PV)} {o : Nat}, relEls w I sz b es o → ∃ vs, vs.length = es.length * sz ∧ arrRel w I sz es vs ∧ ∀ j u, vs[j]? = some u → w.cell? ⟨b, o + j, none⟩ = some u ∧ u.oneCell' = true
  | [], o, _ => ⟨[], by simp, trivial, by simp⟩
  | c :: es, o, h => by
    simp only [relEls] at h
    obtain ⟨h1, h2, h3⟩ := h
    obtain ⟨us, a1, a2, a3, a4⟩ := relAt_vals h2
    obtain ⟨vs, b1, b2, b3⟩ := relEls_vals h3
    have hl : us.length = sz := a1.trans h1
    refine ⟨us ++ vs, by simp [hl, b1, Nat.add_mul]; omega, ?_, fun j u hu => ?_⟩
    · refine ⟨h1, by simp; omega, a3, ?_, ?_⟩
      · rw [← hl, List.take_left]; exact a2
      · rw [← hl, List.drop_left, hl]; exact b2
    · rw [List.getElem?_append] at hu
      split at hu
      · exact a4 j u hu
      · have := b3 _ u hu
        rwa [show o + sz + (j - us.length) = o + j by omega] at this
theorem arrRel_length {sz : Nat} : ∀ {es : List (List PV)} {vs : List Value}, arrRel w I sz es vs → es.length * sz ≤ vs.length
  | [], vs, _ => by simp
  | c :: es, vs, ⟨h1, h0, h2, h3, h4⟩ => by
    have := arrRel_length h4
    simp only [List.length_cons, List.length_drop, Nat.add_mul] at this ⊢
    omega
theorem arrRel_prefix {sz : Nat} : ∀ {es : List (List PV)} {vs us : List Value}, arrRel w I sz es vs → us.take (es.length * sz) = vs.take (es.length * sz) → arrRel w I sz es us
  | [], _, _, _, _ => trivial
  | c :: es, vs, us, ⟨h1, h0, h2, h3, h4⟩, he => by
    have hl := arrRel_length h4
    simp only [List.length_cons, Nat.add_mul, Nat.one_mul] at he
    simp only [List.length_drop] at hl
    have hl' : sz ≤ us.length := by
      have := congrArg List.length he
      simp at this
      omega
    have e1 : us.take sz = vs.take sz := by
      have := congrArg (List.take sz) he
      rwa [List.take_take, List.take_take, Nat.min_eq_left (by omega)] at this
    refine ⟨h1, hl', h2, by rw [e1]; exact h3, arrRel_prefix h4 ?_⟩
    have := congrArg (List.drop sz) he
    rw [List.drop_take, List.drop_take] at this
    rwa [show es.length * sz + sz - sz = es.length * sz by omega] at this
theorem arrRel_take {sz : Nat} : ∀ {es : List (List PV)} {vs : List Value} (n : Nat), arrRel w I sz es vs → arrRel w I sz (es.take n) vs
  | [], _, _, _ => by simp; trivial
  | c :: es, vs, n, ⟨h1, h0, h2, h3, h4⟩ => by
    cases n with
    | zero => simp; trivial
    | succ n => exact ⟨h1, h0, h2, h3, arrRel_take n h4⟩
theorem arrRel_append {sz : Nat} : ∀ {es ys : List (List PV)} {vs us : List Value}, arrRel w I sz es vs → vs.length = es.length * sz → arrRel w I sz ys us → arrRel w I sz (es ++ ys) (vs ++ us)
  | [], ys, vs, us, _, hl, hy => by
    have : vs = [] := List.eq_nil_of_length_eq_zero (by simpa using hl)
    subst this; simpa using hy
  | c :: es, ys, vs, us, ⟨h1, h0, h2, h3, h4⟩, hl, hy => by
    simp only [List.length_cons, Nat.add_mul, Nat.one_mul] at hl
    refine ⟨h1, by simp; omega, h2, ?_, ?_⟩
    · rw [List.take_append_of_le_length h0]; exact h3
    · rw [List.drop_append_of_le_length h0]; exact arrRel_append h4 (by simp; omega) hy
theorem arrRel_mem {sz : Nat} : ∀ {es : List (List PV)} {vs : List Value}, arrRel w I sz es vs → vs.length = es.length * sz → ∀ u ∈ vs, u.oneCell' = true
  | [], vs, _, hl, u, hu => by
    have : vs = [] := List.eq_nil_of_length_eq_zero (by simpa using hl)
    subst this; simp at hu
  | c :: es, vs, ⟨h1, h0, h2, h3, h4⟩, hl, u, hu => by
    simp only [List.length_cons, Nat.add_mul, Nat.one_mul] at hl
    rw [← List.take_append_drop sz vs, List.mem_append] at hu
    rcases hu with hu | hu
    · have key : ∀ (c : List PV) (vs : List Value), (∀ p ∈ c, p.scalar = true) → relL w I c vs → ∀ u ∈ vs, u.oneCell' = true := by
        intro c
        induction c with
        | nil => intro vs _ hr u hu; simp only [relL] at hr; subst hr; simp at hu
        | cons p c ih =>
          intro vs hs hr u hu
          simp only [relL] at hr
          obtain ⟨x, xs, rfl, r1, r2⟩ := hr
          rcases List.mem_cons.1 hu with e | e
          · subst e; exact rel_oneCell r1 (hs p (by simp))
          · exact ih xs (fun q hq => hs q (by simp [hq])) r2 u e
      exact key c _ h2 h3 u hu
    · exact arrRel_mem h4 (by simp; omega) u hu
def elsOf (h : AHeap) : AV → Option (List (List PV))
  | .pv (.sl es) => some es
  | .nils => some []
  | .osl id n => match h[id]? with
    | some (.arr _ _ es) => if n ≤ es.length then some (es.take n) else none
    | some (.imm _ es) => if n ≤ es.length then some (es.take n) else none
    | _ => none
  | _ => none
/-- What is appended: the elements, where they lie. -/
theorem elsOf_sound (hI : Inv G ι I h w) {y : AV} {v : Value} {ys : List (List PV)} {sz : Nat} (hy : arel w I ι y v) (he : elsOf h y = some ys) (hall : (ys.all fun c => c.length == sz) = true) :
    ∃ A c, v = .slice A ys.length c ∧ ys.length ≤ 140737488355328 ∧ (ys = [] ∨ ∃ b o news, A = some ⟨b, o, none⟩ ∧ news.length = ys.length * sz ∧ arrRel w I sz ys news ∧ ∀ j u, news[j]? = some u → w.cell? ⟨b, o + j, none⟩ = some u ∧ u.oneCell' = true) := by
  have szeq : ∀ {sz' : Nat} {c : List PV} {cs : List (List PV)}, ys = c :: cs → c.length = sz' → sz' = sz := by
    intro sz' c cs e hc
    subst e
    simp at hall
    exact hc.symm.trans hall.1
  unfold elsOf at he
  split at he
  · cases he
    simp only [arel, rel] at hy
    obtain ⟨A, cap, rfl, h1, h2, h3⟩ := hy
    refine ⟨A, cap, rfl, h2, ?_⟩
    rcases h3 with h3 | ⟨b, o, sz', rfl, hIb, hr⟩
    · exact .inl h3
    · cases ys with
      | nil => exact .inl rfl
      | cons c cs =>
        obtain rfl := szeq rfl (by simp only [relEls] at hr; exact hr.1)
        obtain ⟨news, n1, n2, n3⟩ := relEls_vals hr
        exact .inr ⟨b, o, news, rfl, n1, n2, n3⟩
  · cases he
    simp only [arel] at hy; subst hy
    exact ⟨none, 0, by simp, by simp, .inl rfl⟩
  · rename_i id n
    simp only [arel] at hy
    split at he
    · rename_i t s es ho
      split at he <;> cases he
      rename_i hn
      have e : (es.take n).length = n := by simp; omega
      rcases (hI.obj id _ ho).2 with ⟨k0, e0⟩ | ⟨k0, vs, k1, k2, k3, k4, k5, k6⟩
      · subst e0; simp at hn; subst hn
        rcases hy with ⟨rfl, _⟩ | ⟨_, h0⟩
        · exact ⟨none, 0, by simp, by simp, .inl (by simp)⟩
        · exact absurd k0 h0.1
      · rcases hy with ⟨_, _, h0⟩ | ⟨rfl, _⟩
        · exact absurd h0 k0
        · refine ⟨_, _, by rw [e], by omega, ?_⟩
          by_cases hz : es.take n = []
          · exact .inl hz
          · right
            have hs : s = sz := by
              cases hes : es.take n with
              | nil => exact absurd hes hz
              | cons c cs =>
                refine szeq hes ?_
                have hc : es[0]? = some c := by
                  have := congrArg (·[0]?) hes
                  simpa [List.getElem?_take, show 0 < n from by rcases Nat.eq_zero_or_pos n with h | h; (subst h; simp at hes); exact h] using this
                exact (arrRel_get k6 hc).1
            subst hs
            have hl := arrRel_length (arrRel_take n k6)
            refine ⟨_, 0, vs.take (n * s), rfl, by rw [e, List.length_take]; rw [e] at hl; omega, ?_, fun j u hu => ?_⟩
            · exact arrRel_prefix (arrRel_take n k6) (by rw [e, List.take_take, Nat.min_self])
            · have hmem := arrRel_mem (arrRel_prefix (us := vs.take (n * s)) (arrRel_take n k6) (by rw [e, List.take_take, Nat.min_self])) (by rw [e, List.length_take]; rw [e] at hl; omega) u (List.mem_of_getElem? hu)
              rw [List.getElem?_take] at hu
              split at hu
              · simp only [World.cell?, k1]; simpa using ⟨hu, hmem⟩
              · cases hu
    · rename_i s es ho
      split at he <;> cases he
      rename_i hn
      have e : (es.take n).length = n := by simp; omega
      rcases (hI.obj id _ ho).2 with ⟨k0, e0⟩ | ⟨k0, k2, k3, k4, k5⟩
      · subst e0; simp at hn; subst hn
        rcases hy with ⟨rfl, _⟩ | ⟨_, h0⟩
        · exact ⟨none, 0, by simp, by simp, .inl (by simp)⟩
        · exact absurd k0 h0.1
      · rcases hy with ⟨_, _, h0⟩ | ⟨rfl, _⟩
        · exact absurd h0 k0
        · refine ⟨_, _, by rw [e], by omega, ?_⟩
          by_cases hz : es.take n = []
          · exact .inl hz
          · right
            have hr := relEls_take n k5
            have hs : s = sz := by
              cases hes : es.take n with
              | nil => exact absurd hes hz
              | cons c cs =>
                rw [hes] at hr
                simp only [relEls] at hr
                exact szeq hes hr.1
            subst hs
            obtain ⟨news, n1, n2, n3⟩ := relEls_vals hr
            exact ⟨_, 0, news, rfl, n1, n2, n3⟩
    · cases he
  · cases he
def apR (P : Program) (t : TypeId) (s y : AV) (h : AHeap) : Option (AV × AHeap) := match slS P t with
  | some (e, sz) => match bytT P e, zeroT P e, elsOf h y with
    | some by_, some _, some ys => if 0 < sz ∧ (ys.all fun c => c.length == sz) = true then match s with
      | .nils => if ys.length * by_ ≤ 140737488355328 then some (.osl h.length ys.length, h ++ [.arr e sz ys]) else none
      | .osl id n => match h[id]? with
        | some (.arr t' sz' es) => if t' = e ∧ sz' = sz ∧ n = es.length ∧ (n + ys.length) * by_ ≤ 140737488355328 ∧ n + ys.length ≤ 140737488355328 then some (.osl h.length (n + ys.length), h.set id .gone ++ [.arr e sz (es ++ ys)]) else none
        | _ => none
      | _ => none
      else none
    | _, _, _ => none
  | none => none
theorem bytT_spec {e : TypeId} {b sz : Nat} {z : List AV} (h1 : bytT P e = some b) (h2 : szT P e = some sz) (h3 : zeroT P e = some z) : ∃ i v, P.info? e = some i ∧ i.zero = some v ∧ i.size = sz ∧ i.bytes = b ∧ v.cells.size = sz := by
  unfold bytT at h1; unfold szT at h2; unfold zeroT at h3
  cases hi : P.info? e with
  | none => simp [hi] at h1
  | some i =>
    simp only [hi, Option.map_some, Option.some.injEq, Option.bind_some] at h1 h2 h3
    cases hz : i.zero with
    | none => simp [hz] at h3
    | some v =>
      simp only [hz, Option.bind_some] at h3
      split at h3
      · rename_i he; exact ⟨i, v, rfl, hz, h2, h1, by omega⟩
      · cases h3
theorem run_append_zero {t e : TypeId} {sz : Nat} (hu : P.underlying t = some (.slice e)) (hz : szT P e = some sz) (ty : TypeId) (B A : Option Addr) (n cap c : Nat) (hn : n ≤ cap) :
    (Builtin.append_ #[t, t] ty #[.slice B n cap, .slice A 0 c]).run P w = .ok (.slice B n cap) w := by
  cases A <;> cases B <;> simp [Builtin.append_, run_underlying hu, run_sizeOf' hz, Builtin.lenOf, Builtin.firstCells, hn, loadCells, loadCellsFrom, storeCells]
theorem apR_sound (hI : Inv G ι I h w) {t ty : TypeId} {s y r : AV} {sv yv : Value} {h' : AHeap} (hs : arel w I ι s sv) (hy : arel w I ι y yv) (hf : apR P t s y h = some (r, h')) :
    Post1 G ι I h w r h' ((Builtin.append_ #[t, t] ty #[sv, yv]).run P w) := by
  unfold apR at hf
  split at hf
  case h_2 => cases hf
  rename_i e sz hsl
  obtain ⟨hu, hz⟩ := slS_spec hsl
  split at hf
  case h_2 => cases hf
  rename_i by_ z ys hb hzz hels
  split at hf
  case isFalse => cases hf
  rename_i hc
  obtain ⟨hsz, hall⟩ := hc
  obtain ⟨i, zv, i1, i2, i3, i4, i5⟩ := bytT_spec hb hz hzz
  obtain ⟨A, c, rfl, y1, y2⟩ := elsOf_sound hI hy hels hall
  -- from what the run leaves to the new object
  have fin : ∀ (h0 : AHeap) (es : List (List PV)) (v' : Value) (w' : World) (n : Nat), n = es.length → h0.length = h.length → Inv G ι I h0 w' → Ext I I ι ι h.length w w' → n ≤ 140737488355328 →
      (v' = .slice none 0 0 ∧ es = [] ∨ ∃ g cap cur, v' = .slice (some ⟨g, 0, none⟩) n cap ∧ w'.heap[g]? = some (.cells cur e (0, 0)) ∧ n ≤ cap ∧ cap ≤ maxLen ∧ cur.size = cap * sz ∧ arrRel w' I sz es cur.toList ∧ g < w'.heap.size ∧ ¬ I g ∧ (G.O g ∨ G.w0.heap.size ≤ g) ∧ ∀ i oi, h0[i]? = some oi → oi.live (ι i).2 = true → (ι i).1 ≠ g) →
      Post1 G ι I h w (.osl h.length n) (h0 ++ [.arr e sz es]) (.ok v' w') := by
    intro h0 es v' w' n hn hl hI' hE hb' hcase
    rcases hcase with ⟨rfl, rfl⟩ | ⟨g, cap, cur, rfl, c1, c2, c3, c4, c5, c6, c7, c8, c9⟩
    · obtain ⟨p1, p2⟩ := hI'.push (.arr e sz []) 0 0 trivial (.inl ⟨rfl, rfl⟩) (fun x => by simp [AObj.live] at x)
      rw [hl] at p1 p2
      refine ⟨_, _, _, _, rfl, p1, hE.trans p2 (by omega), by simp; omega, ?_, by simp [AV.lt]; omega⟩
      simp at hn
      simp [arel, upd, hn]
    · obtain ⟨p1, p2⟩ := hI'.push (.arr e sz es) g (cap + 1) trivial (.inr ⟨by omega, cur.toList, by simpa using c1, by simpa using c4, by omega, by omega, by omega, c5⟩) (fun _ => ⟨c6, c7, c8, c9⟩)
      rw [hl] at p1 p2
      refine ⟨_, _, _, _, rfl, p1, hE.trans p2 (by omega), by simp; omega, ?_, by simp [AV.lt]; omega⟩
      simp only [arel, upd_same]
      exact .inr ⟨by simp, by simp, by simp; omega⟩
  have hmax : ∀ k, k ≤ 140737488355328 → k ≤ maxLen := fun k hk => by simp only [maxLen]; omega
  split at hf
  · -- onto nil
    split at hf <;> cases hf
    rename_i hbytes
    simp only [arel] at hs; subst hs
    rcases y2 with rfl | ⟨b, o, news, rfl, n1, n2, n3⟩
    · have := run_append_zero (P := P) (w := w) hu hz ty none A 0 0 c (Nat.le_refl _)
      simp only [List.length_nil]
      rw [this]
      exact fin h [] _ w 0 rfl rfl hI (Ext.refl _ _ _ _) (by omega) (.inl ⟨rfl, rfl⟩)
    · obtain ⟨v', w', r1, r2, r3, r4, r5⟩ := run_append_own_at (P := P) w 0 t ty e i zv sz by_ hu i1 i2 i3 i4 i5 hsz (.slice none 0 0) 0 [] (World.ownsRow_nil w 0 e sz) ⟨b, o, none⟩ ys.length c news n1
        (fun j u hu' => by rw [addr_add]; exact (n3 j u hu').1) (fun u hu' => by obtain ⟨j, hj⟩ := List.getElem?_of_mem hu'; exact (n3 j u hj).2) (by rw [Nat.zero_add]; exact hmax _ y1) (by simpa using hbytes) (Nat.zero_le _)
      rw [r1]
      have hbel : Below w.heap.size w w' := ⟨r3.os, r3.tape, r3.output, r3.size, fun k hk => r3.block k hk (by simp [Value.ownBlock])⟩
      obtain ⟨q1, q2⟩ := hI.grow hbel (run_drawn _ r1) (fun _ x => x) (fun b x => .inl x)
      refine fin h ys v' w' ys.length rfl rfl q1 q2 y1 ?_
      obtain ⟨s1, s2⟩ := r2
      rcases s2 with ⟨rfl, s3⟩ | ⟨g, cap, cur, rfl, _, s4, s5, s6, s7, s8⟩
      · exact .inl ⟨rfl, List.eq_nil_of_length_eq_zero (by omega)⟩
      · have hg : g = w.heap.size := by
          rcases r5 with r5 | r5 <;> simp [Value.ownBlock] at r5
          exact r5
        refine .inr ⟨g, cap, cur, by simp, s4, by omega, s6, s7, ?_, (Array.getElem?_eq_some_iff.1 s4).1, fun x => ?_, .inr (by rw [hg]; exact hI.size), fun i oi hi hl => ?_⟩
        · have n2' := arrRel_keep (w' := w') (I' := I) q2.hk (fun _ x => x) n2
          refine arrRel_prefix n2' ?_
          rw [List.nil_append, Nat.zero_add] at s8
          rw [s8, List.take_of_length_le (by omega)]
        · have := (hI.bound g x).1; omega
        · have := (hI.own i oi hi hl).1; omega
  · -- onto an own array
    rename_i id n
    split at hf
    case h_2 => cases hf
    rename_i t' sz' es ho
    split at hf <;> cases hf
    rename_i hcond
    obtain ⟨rfl, rfl, rfl, hbytes, hlen⟩ := hcond
    have hid : id < h.length := (List.getElem?_eq_some_iff.1 ho).1
    have hlet := hI.let (id := id)
    have hnone : ∀ i oi, (h.set id AObj.gone)[i]? = some oi → oi.live (ι i).2 = true → i ≠ id ∧ h[i]? = some oi := by
      intro i oi hi hl
      by_cases e : i = id
      · subst e; rw [List.getElem?_set_self hid] at hi; simp at hi; subst hi; cases hl
      · rw [List.getElem?_set_ne (fun x => e x.symm)] at hi; exact ⟨e, hi⟩
    rcases (hI.obj id _ ho).2 with ⟨k0, e0⟩ | ⟨k0, vs, k1, k2, k3, k4, k5, k6⟩
    · -- it is nil yet
      subst e0
      rcases hs with ⟨rfl, _⟩ | ⟨_, h0⟩
      case inr => exact absurd k0 h0.1
      simp only [List.length_nil, Nat.zero_add, List.nil_append] at hbytes hlen ⊢
      rcases y2 with rfl | ⟨b, o, news, rfl, n1, n2, n3⟩
      · have := run_append_zero (P := P) (w := w) hu hz ty none A 0 0 c (Nat.le_refl _)
        simp only [List.length_nil]
        rw [this]
        exact fin (h.set id .gone) [] _ w 0 rfl (by simp) hlet (Ext.refl _ _ _ _) (by omega) (.inl ⟨rfl, rfl⟩)
      · obtain ⟨v', w', r1, r2, r3, r4, r5⟩ := run_append_own_at (P := P) w 0 t ty t' i zv sz' by_ hu i1 i2 i3 i4 i5 hsz (.slice none 0 0) 0 [] (World.ownsRow_nil w 0 t' sz') ⟨b, o, none⟩ ys.length c news n1
          (fun j u hu' => by rw [addr_add]; exact (n3 j u hu').1) (fun u hu' => by obtain ⟨j, hj⟩ := List.getElem?_of_mem hu'; exact (n3 j u hj).2) (by rw [Nat.zero_add]; exact hmax _ y1) (by simpa using hbytes) (Nat.zero_le _)
        rw [r1]
        have hbel : Below w.heap.size w w' := ⟨r3.os, r3.tape, r3.output, r3.size, fun k hk => r3.block k hk (by simp [Value.ownBlock])⟩
        obtain ⟨q1, q2⟩ := hlet.grow hbel (run_drawn _ r1) (fun _ x => x) (fun b x => .inl x)
        rw [List.length_set] at q2
        refine fin (h.set id .gone) ys v' w' ys.length rfl (by simp) q1 q2 y1 ?_
        obtain ⟨s1, s2⟩ := r2
        rcases s2 with ⟨rfl, s3⟩ | ⟨g, cap, cur, rfl, _, s4, s5, s6, s7, s8⟩
        · exact .inl ⟨rfl, List.eq_nil_of_length_eq_zero (by omega)⟩
        · have hg : g = w.heap.size := by
            rcases r5 with r5 | r5 <;> simp [Value.ownBlock] at r5
            exact r5
          refine .inr ⟨g, cap, cur, by simp, s4, by omega, s6, s7, ?_, (Array.getElem?_eq_some_iff.1 s4).1, fun x => ?_, .inr (by rw [hg]; exact hI.size), fun i oi hi hl => ?_⟩
          · have n2' := arrRel_keep (w' := w') (I' := I) q2.hk (fun _ x => x) n2
            refine arrRel_prefix n2' ?_
            rw [List.nil_append, Nat.zero_add] at s8
            rw [s8, List.take_of_length_le (by omega)]
          · have := (hI.bound g x).1; omega
          · have := (hlet.own i oi hi hl).1; omega
    · rcases hs with ⟨_, _, h0⟩ | ⟨rfl, _⟩
      case inl => exact absurd h0 k0
      have hlv : (AObj.arr t' sz' es).live (ι id).2 = true := by simpa [AObj.live] using k0
      obtain ⟨o1, o2, o3⟩ := hI.own id _ ho hlv
      have hvl := arrRel_length k6
      rcases y2 with rfl | ⟨b, o, news, rfl, n1, n2, n3⟩
      · have := run_append_zero (P := P) (w := w) hu hz ty (some ⟨(ι id).1, 0, none⟩) A es.length ((ι id).2 - 1) c k3
        simp only [List.length_nil, Nat.add_zero, List.append_nil]
        rw [this]
        refine fin (h.set id .gone) es _ w es.length rfl (by simp) hlet (Ext.refl _ _ _ _) (by simpa using hlen) (.inr ⟨_, _, vs.toArray, rfl, k1, k3, k4, by simpa using k2, by simpa using k6, o1, o2, o3, fun i oi hi hl => ?_⟩)
        obtain ⟨m1, m2⟩ := hnone i oi hi hl
        exact hI.inj i id oi _ m2 ho m1 hl hlv
      · have hown : w.ownsRow 0 t' sz' (.slice (some ⟨(ι id).1, 0, none⟩) es.length ((ι id).2 - 1)) es.length (vs.take (es.length * sz')) :=
          ⟨by simp; omega, .inr ⟨_, _, vs.toArray, rfl, Nat.zero_le _, k1, k3, k4, by simpa using k2, by simp⟩⟩
        obtain ⟨v', w', r1, r2, r3, r4, r5⟩ := run_append_own_at (P := P) w 0 t ty t' i zv sz' by_ hu i1 i2 i3 i4 i5 hsz _ es.length _ hown ⟨b, o, none⟩ ys.length c news n1
          (fun j u hu' => by rw [addr_add]; exact (n3 j u hu').1) (fun u hu' => by obtain ⟨j, hj⟩ := List.getElem?_of_mem hu'; exact (n3 j u hj).2) (hmax _ hlen) hbytes (Nat.zero_le _)
        rw [r1]
        have hfree : ∀ i oi, (h.set id AObj.gone)[i]? = some oi → oi.live (ι i).2 = true → (ι i).1 ≠ (ι id).1 := by
          intro i oi hi hl
          obtain ⟨m1, m2⟩ := hnone i oi hi hl
          exact hI.inj i id oi _ m2 ho m1 hl hlv
        obtain ⟨q1, q2⟩ := hlet.grow_but (ι id).1 o2 o3 hfree r3 (run_drawn _ r1)
        rw [List.length_set] at q2
        refine fin (h.set id .gone) (es ++ ys) v' w' (es.length + ys.length) (by simp) (by simp) q1 q2 hlen ?_
        obtain ⟨s1, s2⟩ := r2
        rcases s2 with ⟨rfl, s3⟩ | ⟨g, cap, cur, rfl, _, s4, s5, s6, s7, s8⟩
        · exact .inl ⟨rfl, List.eq_nil_of_length_eq_zero (by rw [List.length_append]; exact s3)⟩
        · have hgg : (g = (ι id).1) ∨ g = w.heap.size := by
            rcases r5 with r5 | r5 <;> simp [Value.ownBlock] at r5
            · exact .inl r5
            · exact .inr r5
          refine .inr ⟨g, cap, cur, rfl, s4, s5, s6, s7, ?_, (Array.getElem?_eq_some_iff.1 s4).1, fun x => ?_, ?_, fun i oi hi hl => ?_⟩
          · have n2' := arrRel_keep (w' := w') (I' := I) q2.hk (fun _ x => x) n2
            have k6' := arrRel_keep (w' := w') (I' := I) q2.hk (fun _ x => x) k6
            have hp := arrRel_prefix (us := vs.take (es.length * sz')) k6' (by rw [List.take_take, Nat.min_self])
            have ha := arrRel_append hp (by rw [List.length_take]; omega) n2'
            refine arrRel_prefix ha ?_
            rw [List.length_append, s8]
            exact (List.take_of_length_le (by rw [List.length_append, List.length_take, n1, Nat.add_mul]; omega)).symm
          · rcases hgg with rfl | rfl
            · exact o2 x
            · exact Nat.lt_irrefl _ (hI.bound _ x).1
          · rcases hgg with rfl | rfl
            · exact o3
            · exact .inr hI.size
          · rcases hgg with rfl | rfl
            · exact hfree i oi hi hl
            · have := (hlet.own i oi hi hl).1; omega
  · cases hf
end
end Go.Proofs.YtahamnipffckhaaDoor
