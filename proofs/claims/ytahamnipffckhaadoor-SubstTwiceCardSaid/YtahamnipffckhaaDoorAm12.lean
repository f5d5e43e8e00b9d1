import Derived.Test.YtahamnipffckhaaDoorAm11
set_option linter.unusedVariables false
set_option linter.unusedSimpArgs false
namespace Go.Proofs.YtahamnipffckhaaDoor
open Go Go.RowKit

/-! ### 24. Other numbers for own objects -/
mutual
def AV.ren (r : Nat → Nat) : AV → AV
  | .ptr id o => .ptr (r id) o
  | .eptr id a b c => .eptr (r id) a b c
  | .osl id n => .osl (r id) n
  | .osb id sz lo n => .osb (r id) sz lo n
  | .mp id => .mp (r id)
  | .agg cs => .agg (AV.renL r cs)
  | .tup cs => .tup (AV.renL r cs)
  | .fn f cs => .fn f (AV.renL r cs)
  | .pv p => .pv p
  | .nils => .nils
  | .iptr cs => .iptr cs
  | .undef => .undef
def AV.renL (r : Nat → Nat) : List AV → List AV
  | [] => []
  | c :: cs => c.ren r :: AV.renL r cs
end
def AObj.ren (r : Nat → Nat) : AObj → AObj
  | .box cs => .box (AV.renL r cs)
  | .mp kk f => .mp kk (fun k => (f k).map (AV.ren r))
  | .arr t sz es => .arr t sz es
  | .imm sz es => .imm sz es
  | .gone => .gone
def CR.ren (r : Nat → Nat) : CR → CR
  | .ret v => .ret (v.ren r)
  | .pan p => .pan p
attribute [go_sem] AV.ren AV.renL AObj.ren CR.ren
section
variable {w : World} {I : Nat → Prop} {ι : Nat → Nat × Nat} {r : Nat → Nat}
theorem cell_ren : ∀ (x : AV), (x.ren r).cell = x.cell
  | .ptr _ _ | .eptr _ _ _ _ | .osl _ _ | .osb _ _ _ _ | .mp _ | .agg _ | .tup _ | .fn _ _ | .pv _ | .nils | .iptr _ | .undef => by simp only [AV.ren, AV.cell]
theorem renL_map : ∀ (cs : List AV), AV.renL r cs = cs.map (AV.ren r)
  | [] => rfl
  | c :: cs => by simp only [AV.renL, List.map_cons, renL_map cs]
mutual
theorem arel_ren : ∀ (x : AV) (v : Value), arel w I ι (x.ren r) v ↔ arel w I (fun id => ι (r id)) x v
  | .pv p, v => by simp only [AV.ren, arel]
  | .nils, v => by simp only [AV.ren, arel]
  | .ptr id off, v => by simp only [AV.ren, arel]
  | .eptr id sz i j, v => by simp only [AV.ren, arel]
  | .iptr cs, v => by simp only [AV.ren, arel]
  | .osl id n, v => by simp only [AV.ren, arel]
  | .osb id sz lo n, v => by simp only [AV.ren, arel]
  | .agg cs, v => by
    simp only [AV.ren, arel]
    constructor
    · rintro ⟨vs, h1, h2, h3⟩
      refine ⟨vs, h1, fun c hc => ?_, (arelL_ren cs vs).1 h3⟩
      have := h2 (c.ren r) (by rw [renL_map]; exact List.mem_map.2 ⟨c, hc, rfl⟩)
      rwa [cell_ren] at this
    · rintro ⟨vs, h1, h2, h3⟩
      refine ⟨vs, h1, fun c hc => ?_, (arelL_ren cs vs).2 h3⟩
      rw [renL_map] at hc
      obtain ⟨d, hd, rfl⟩ := List.mem_map.1 hc
      rw [cell_ren]; exact h2 d hd
  | .tup cs, v => by
    simp only [AV.ren, arel]
    exact ⟨fun ⟨vs, h1, h3⟩ => ⟨vs, h1, (arelL_ren cs vs).1 h3⟩, fun ⟨vs, h1, h3⟩ => ⟨vs, h1, (arelL_ren cs vs).2 h3⟩⟩
  | .fn f cs, v => by
    simp only [AV.ren, arel]
    exact ⟨fun ⟨vs, h1, h3⟩ => ⟨vs, h1, (arelL_ren cs vs).1 h3⟩, fun ⟨vs, h1, h3⟩ => ⟨vs, h1, (arelL_ren cs vs).2 h3⟩⟩
  | .mp id, v => by simp only [AV.ren, arel]
  | .undef, v => by simp only [AV.ren, arel]
theorem arelL_ren : ∀ (xs : List AV) (vs : List Value), arelL w I ι (AV.renL r xs) vs ↔ arelL w I (fun id => ι (r id)) xs vs
  | [], vs => by simp only [AV.renL, arelL]
  | x :: xs, vs => by
    simp only [AV.renL, arelL]
    exact ⟨fun ⟨u, us, h1, h2, h3⟩ => ⟨u, us, h1, (arel_ren x u).1 h2, (arelL_ren xs us).1 h3⟩, fun ⟨u, us, h1, h2, h3⟩ => ⟨u, us, h1, (arel_ren x u).2 h2, (arelL_ren xs us).2 h3⟩⟩
end
mutual
theorem lt_ren {n m : Nat} (h : ∀ id, id < n → r id < m) : ∀ (x : AV), x.lt n → (x.ren r).lt m
  | .ptr id _, hl | .eptr id _ _ _, hl | .osl id _, hl | .osb id _ _ _, hl | .mp id, hl => by simp only [AV.ren, AV.lt] at hl ⊢; exact h id hl
  | .agg cs, hl | .tup cs, hl | .fn _ cs, hl => by simp only [AV.ren, AV.lt] at hl ⊢; exact ltL_ren h cs hl
  | .pv _, _ | .nils, _ | .iptr _, _ | .undef, _ => by simp only [AV.ren, AV.lt]
theorem ltL_ren {n m : Nat} (h : ∀ id, id < n → r id < m) : ∀ (xs : List AV), AV.ltL n xs → AV.ltL m (AV.renL r xs)
  | [], _ => by simp only [AV.renL, AV.ltL]
  | x :: xs, hl => by simp only [AV.renL, AV.ltL] at hl ⊢; exact ⟨lt_ren h x hl.1, ltL_ren h xs hl.2⟩
end
theorem olt_ren {n m : Nat} (h : ∀ id, id < n → r id < m) : ∀ {o : AObj}, o.lt n → (o.ren r).lt m
  | .box cs, hl => by simp only [AObj.ren, AObj.lt] at hl ⊢; exact ltL_ren h cs hl
  | .mp _ es, hl => by
    simp only [AObj.ren, AObj.lt] at hl ⊢
    intro k v hx
    cases hf : es k with
    | none => simp [hf] at hx
    | some u =>
      simp only [hf, Option.map_some, Option.some.injEq] at hx
      subst hx
      exact lt_ren h _ (hl k u hf)
  | .arr _ _ _, _ | .imm _ _, _ | .gone, _ => trivial
theorem live_ren {o : AObj} {c : Nat} : (o.ren r).live c = o.live c := by cases o <;> rfl
theorem mapRel_ren {kk : Nat} {f : Key → Option AV} {l : List MapEntry} : mapRel w I ι kk (fun k => (f k).map (AV.ren r)) l ↔ mapRel w I (fun id => ι (r id)) kk f l := by
  constructor
  · rintro ⟨h1, h2, h3⟩
    refine ⟨fun e he => ?_, h2, fun k v hk => h3 k (v.ren r) (by simp [hk])⟩
    obtain ⟨k, v, k1, k2, k3, k4⟩ := h1 e he
    cases hf : f k with
    | none => simp [hf] at k3
    | some u =>
      simp only [hf, Option.map_some, Option.some.injEq] at k3
      subst k3
      exact ⟨k, u, k1, k2, hf, (arel_ren _ _).1 k4⟩
  · rintro ⟨h1, h2, h3⟩
    refine ⟨fun e he => ?_, h2, fun k v hk => ?_⟩
    · obtain ⟨k, v, k1, k2, k3, k4⟩ := h1 e he
      exact ⟨k, v.ren r, k1, k2, by simp [k3], (arel_ren _ _).2 k4⟩
    · cases hf : f k with
      | none => simp [hf] at hk
      | some u => exact h3 k u hf
theorem objRel_ren {b cap : Nat} : ∀ {o : AObj}, objRel w I ι b cap (o.ren r) ↔ objRel w I (fun id => ι (r id)) b cap o
  | .box cs => by
    simp only [AObj.ren, objRel]
    constructor
    · rintro ⟨vs, t, h1, h2, h3⟩
      refine ⟨vs, t, h1, fun c hc => ?_, (arelL_ren cs vs).1 h3⟩
      have := h2 (c.ren r) (by rw [renL_map]; exact List.mem_map.2 ⟨c, hc, rfl⟩)
      rwa [cell_ren] at this
    · rintro ⟨vs, t, h1, h2, h3⟩
      refine ⟨vs, t, h1, fun c hc => ?_, (arelL_ren cs vs).2 h3⟩
      rw [renL_map] at hc
      obtain ⟨d, hd, rfl⟩ := List.mem_map.1 hc
      rw [cell_ren]; exact h2 d hd
  | .mp kk es => by
    simp only [AObj.ren, objRel]
    exact ⟨fun ⟨a, c, h1, h2⟩ => ⟨a, c, h1, mapRel_ren.1 h2⟩, fun ⟨a, c, h1, h2⟩ => ⟨a, c, h1, mapRel_ren.2 h2⟩⟩
  | .arr _ _ _ => Iff.rfl
  | .imm _ _ => Iff.rfl
  | .gone => Iff.rfl
end

/-! ### 25. A call over some of the own objects -/
def ix : List Nat → Nat → Option Nat
  | [], _ => none
  | a :: l, j => if a = j then some 0 else match ix l j with
    | some i => some (i + 1)
    | none => none
def rho (n : Nat) (ids : List Nat) (p : Nat) : Nat → Nat := fun j => if j < p then ids.getD j 0 else n + (j - p)
def mrgO (ids : List Nat) (p : Nat) (h'' : AHeap) (ρ : Nat → Nat) (j : Nat) (o : AObj) : AObj := match ix ids j with
  | some i => if i < p then (h''.getD i .gone).ren ρ else .gone
  | none => o
def mrg (h : AHeap) (ids : List Nat) (p : Nat) (h'' : AHeap) : AHeap := h.mapIdx (mrgO ids p h'' (rho h.length ids p)) ++ (h''.drop p).map (AObj.ren (rho h.length ids p))
theorem ix_some : ∀ {ids : List Nat} {j i : Nat}, ix ids j = some i → ids[i]? = some j
  | a :: l, j, i, h => by
    simp only [ix] at h
    split at h
    · rename_i e; cases h; simp [e]
    · split at h <;> cases h
      rename_i i' h1
      simpa using ix_some h1
theorem ix_of : ∀ {ids : List Nat} {j i : Nat}, ids.Nodup → ids[i]? = some j → ix ids j = some i
  | [], j, i, _, h => by simp at h
  | a :: l, j, i, hn, h => by
    obtain ⟨h1, h2⟩ := List.nodup_cons.1 hn
    simp only [ix]
    cases i with
    | zero => simp at h; simp [h]
    | succ i =>
      simp only [List.getElem?_cons_succ] at h
      have hne : a ≠ j := fun e => h1 (e ▸ List.mem_of_getElem? h)
      rw [if_neg hne, ix_of h2 h]
section
variable {P : Program}
theorem mrg_cases {h h'' : AHeap} {ids : List Nat} {p id : Nat} {o : AObj} (hp : p ≤ h''.length) (ho : (mrg h ids p h'')[id]? = some o) :
    (∃ i o'', h''[i]? = some o'' ∧ o = o''.ren (rho h.length ids p) ∧ ((i < p ∧ ids[i]? = some id ∧ id < h.length) ∨ (p ≤ i ∧ id = h.length + (i - p)))) ∨ (id < h.length ∧ h[id]? = some o ∧ ix ids id = none) ∨ o = .gone := by
  unfold mrg at ho
  rcases Nat.lt_or_ge id h.length with h1 | h1
  · rw [List.getElem?_append_left (by simpa using h1), List.getElem?_mapIdx] at ho
    rw [List.getElem?_eq_getElem h1] at ho
    simp only [Option.map_some, Option.some.injEq, mrgO] at ho
    split at ho
    · rename_i i hi
      split at ho
      · rename_i hip
        subst ho
        have hlt : i < h''.length := by omega
        refine .inl ⟨i, h''[i], List.getElem?_eq_getElem hlt, ?_, .inl ⟨hip, ix_some hi, h1⟩⟩
        simp [List.getD_eq_getElem?_getD, hlt]
      · exact .inr (.inr ho.symm)
    · rename_i hi
      subst ho
      exact .inr (.inl ⟨h1, List.getElem?_eq_getElem h1, hi⟩)
  · rw [List.getElem?_append_right (by simpa using h1)] at ho
    simp only [List.length_mapIdx, List.getElem?_map, List.getElem?_drop] at ho
    cases hx : h''[p + (id - h.length)]? with
    | none => rw [hx] at ho; simp at ho
    | some o'' =>
      rw [hx] at ho
      simp only [Option.map_some, Option.some.injEq] at ho
      exact .inl ⟨_, o'', hx, ho.symm, .inr ⟨by omega, by omega⟩⟩
theorem mrg_length {h h'' : AHeap} {ids : List Nat} {p : Nat} : (mrg h ids p h'').length = h.length + (h''.length - p) := by simp [mrg]
/-- A contract over few own objects serves where there are more. -/
theorem FnK.frame {f : FuncId} {args0 : List AV} {h0 : AHeap} {p : Nat} {K0 : CR → AHeap → Prop} (hc : FnK P f args0 h0 p K0) {h : AHeap} (ids : List Nat) (hnd : ids.Nodup) (hlen : h0.length = ids.length) (hp : p ≤ ids.length)
    (hobj : ∀ i o, h0[i]? = some o → o.lt h0.length ∧ h[ids.getD i 0]? = some (o.ren fun j => ids.getD j 0)) (hargl : AV.ltL h0.length args0) {K : CR → AHeap → Prop}
    (hk : ∀ r h'', p ≤ h''.length → K0 r h'' → K (r.ren (rho h.length ids p)) (mrg h ids p h'')) : CallK P f (AV.renL (fun j => ids.getD j 0) args0) h K := by
  refine ⟨hc.1, fun G ι I w vs hI hr hl => ?_⟩
  let ρ0 : Nat → Nat := fun j => ids.getD j 0
  let ι0 : Nat → Nat × Nat := fun j => ι (ρ0 j)
  have hin : ∀ {i : Nat} {o : AObj}, h0[i]? = some o → h[ρ0 i]? = some (o.ren ρ0) := fun hi => (hobj _ _ hi).2
  have hidl : ∀ {i : Nat}, i < h0.length → ρ0 i < h.length := fun hi => (List.getElem?_eq_some_iff.1 (hin (List.getElem?_eq_getElem hi))).1
  have hids : ∀ {i : Nat}, i < h0.length → ids[i]? = some (ρ0 i) := fun {i} hi => by
    have : i < ids.length := by omega
    simp [ρ0, List.getD_eq_getElem?_getD, this]
  have hdist : ∀ {i j : Nat}, i < h0.length → j < h0.length → ρ0 i = ρ0 j → i = j := fun hi hj e => by
    have h1 := ix_of hnd (hids hi)
    have h2 := ix_of hnd (hids hj)
    rw [e] at h1; rw [h1] at h2; exact Option.some.inj h2
  let G' : Ghost := { w0 := w, O := fun b => ∃ i o, h0[i]? = some o ∧ o.live (ι0 i).2 = true ∧ b = (ι0 i).1, I0 := I }
  have hO : ∀ {b : Nat}, G'.O b → b < w.heap.size ∧ ¬ I b ∧ (G.O b ∨ G.w0.heap.size ≤ b) := by
    rintro b ⟨i, o, h1, h2, rfl⟩
    exact hI.own (ρ0 i) _ (hin h1) (by rw [live_ren]; exact h2)
  have hI0 : Inv G' ι0 I h0 w := by
    refine ⟨rfl, rfl, ⟨rfl, Nat.le_refl _⟩, Nat.le_refl _, fun b _ _ => rfl, fun b hb => hb, fun b hb => ⟨(hI.bound b hb).1, .inl hb⟩, fun i o hi => ?_, fun i o hi hlv => ?_, fun i j oi oj hi hj hne li lj => ?_⟩
    · exact ⟨(hobj i o hi).1, objRel_ren.1 (hI.obj _ _ (hin hi)).2⟩
    · obtain ⟨h1, h2, h3⟩ := hI.own (ρ0 i) _ (hin hi) (by rw [live_ren]; exact hlv)
      exact ⟨h1, h2, .inl ⟨i, o, hi, hlv, rfl⟩⟩
    · refine hI.inj (ρ0 i) (ρ0 j) _ _ (hin hi) (hin hj) (fun e => hne (hdist (List.getElem?_eq_some_iff.1 hi).1 (List.getElem?_eq_some_iff.1 hj).1 e)) (by rw [live_ren]; exact li) (by rw [live_ren]; exact lj)
  have hr0 : arelL w I ι0 args0 vs := (arelL_ren args0 vs).1 hr
  have main : ∀ {ι' : Nat → Nat × Nat} {I' : Nat → Prop} {h'' : AHeap} {w' : World}, Inv G' ι' I' h'' w' → Ext I I' ι0 ι' p w w' → p ≤ h''.length →
      ∃ ι2 : Nat → Nat × Nat, (fun j => ι2 (rho h.length ids p j)) = ι' ∧ Inv G ι2 I' (mrg h ids p h'') w' ∧ Ext I I' ι ι2 h.length w w' := by
    intro ι' I' h'' w' hI' hE hp'
    let ι2 : Nat → Nat × Nat := fun id => if id < h.length then ι id else ι' (id - h.length + p)
    have hin2 : ∀ {id : Nat}, id < h.length → ι2 id = ι id := fun hid => if_pos hid
    have hρ : (fun j => ι2 (rho h.length ids p j)) = ι' := by
      funext j
      simp only [rho]
      split
      · rename_i hj
        have h1 : ρ0 j < h.length := hidl (by omega)
        exact (hin2 h1).trans (hE.hj j hj).symm
      · rename_i hj
        simp only [ι2]
        rw [if_neg (by omega)]
        congr 1; omega
    have hE2 : Ext I I' ι ι2 h.length w w' := ⟨hI'.sub, hE.hk, fun id hid => hin2 hid⟩
    have hlt : ∀ j, j < h''.length → rho h.length ids p j < (mrg h ids p h'').length := by
      intro j hj
      rw [mrg_length]
      simp only [rho]
      split
      · have : ρ0 j < h.length := hidl (by omega)
        simp only [ρ0] at this; omega
      · omega
    have hιA : ∀ {i id : Nat}, (i < p ∧ ids[i]? = some id ∧ id < h.length) ∨ (p ≤ i ∧ id = h.length + (i - p)) → ι2 id = ι' i := by
      intro i id hi
      rcases hi with ⟨h1, h2, h3⟩ | ⟨h1, h2⟩
      · have e : ρ0 i = id := by simp [ρ0, List.getD_eq_getElem?_getD, h2]
        rw [hin2 h3, ← e]; exact (hE.hj i h1).symm
      · subst h2
        simp only [ι2]; rw [if_neg (by omega)]; congr 1; omega
    have hout : ∀ {id : Nat} {o : AObj}, h[id]? = some o → ix ids id = none → o.live (ι id).2 = true → ¬ G'.O (ι id).1 := by
      rintro id o h1 h2 h3 ⟨i, o', k1, k2, k3⟩
      have hi := (List.getElem?_eq_some_iff.1 k1).1
      refine hI.inj id (ρ0 i) _ _ h1 (hin k1) (fun e => ?_) h3 (by rw [live_ren]; exact k2) k3
      have := ix_of hnd (hids hi)
      rw [← e, h2] at this; cases this
    refine ⟨ι2, hρ, ⟨hI'.os.trans hI.os, hI'.tape.trans hI.tape, ⟨hI'.output.1.trans hI.output.1, Nat.le_trans hI.output.2 hI'.output.2⟩, Nat.le_trans hI.size hI'.size, fun b h1 h2 => ?_, fun b hb => hI'.sub b (hI.sub b hb), fun b hb => ?_, fun id o ho => ?_, fun id o ho hlv => ?_, fun i j oi oj hi hj hne li lj => ?_⟩, hE2⟩
    · refine (hI'.frame b (Nat.lt_of_lt_of_le h1 hI.size) (fun k => ?_)).trans (hI.frame b h1 h2)
      rcases (hO k).2.2 with k1 | k1
      · exact h2 k1
      · omega
    · obtain ⟨k1, k2⟩ := hI'.bound b hb
      refine ⟨k1, ?_⟩
      rcases k2 with k2 | k2 | k2
      · exact (hI.bound b k2).2
      · exact .inr (hO k2).2.2
      · exact .inr (.inr (Nat.le_trans hI.size k2))
    · rcases mrg_cases hp' ho with ⟨i, o'', k1, k2, k3⟩ | ⟨k1, k2, k3⟩ | k
      · subst k2
        obtain ⟨m1, m2⟩ := hI'.obj i o'' k1
        refine ⟨olt_ren hlt m1, ?_⟩
        rw [objRel_ren, hρ, hιA k3]; exact m2
      · obtain ⟨m1, m2⟩ := hI.obj id o k2
        refine ⟨AObj.lt_mono (by rw [mrg_length]; omega) m1, ?_⟩
        rw [hin2 k1]
        refine objRel_ext hE2 (fun hlv => ?_) m1 m2
        exact hI'.frame _ (hI.own id o k2 hlv).1 (hout k2 k3 hlv)
      · subst k; exact ⟨trivial, trivial⟩
    · rcases mrg_cases hp' ho with ⟨i, o'', k1, k2, k3⟩ | ⟨k1, k2, k3⟩ | k
      · subst k2
        rw [hιA k3] at hlv ⊢
        obtain ⟨m1, m2, m3⟩ := hI'.own i o'' k1 (by rw [live_ren] at hlv; exact hlv)
        refine ⟨m1, m2, ?_⟩
        rcases m3 with m3 | m3
        · exact (hO m3).2.2
        · exact .inr (Nat.le_trans hI.size m3)
      · rw [hin2 k1] at hlv ⊢
        obtain ⟨m1, m2, m3⟩ := hI.own id o k2 hlv
        refine ⟨Nat.lt_of_lt_of_le m1 hI'.size, fun k => ?_, m3⟩
        rcases (hI'.bound _ k).2 with n1 | n1 | n1
        · exact m2 n1
        · exact hout k2 k3 hlv n1
        · exact absurd m1 (Nat.not_lt.2 n1)
      · subst k; cases hlv
    · rcases mrg_cases hp' hi with ⟨a, o1, k1, k2, k3⟩ | ⟨k1, k2, k3⟩ | k
      · subst k2
        rw [hιA k3] at li ⊢
        rw [live_ren] at li
        rcases mrg_cases hp' hj with ⟨c, o2, m1, m2, m3⟩ | ⟨m1, m2, m3⟩ | k
        · subst m2
          rw [hιA m3] at lj ⊢
          rw [live_ren] at lj
          refine hI'.inj a c _ _ k1 m1 (fun e => hne ?_) li lj
          subst e
          rcases k3 with ⟨n1, n2, _⟩ | ⟨n1, n2⟩ <;> rcases m3 with ⟨q1, q2, _⟩ | ⟨q1, q2⟩
          · rw [n2] at q2; exact Option.some.inj q2
          · omega
          · omega
          · omega
        · rw [hin2 m1] at lj ⊢
          intro e
          obtain ⟨n1, n2, n3⟩ := hI.own j oj m2 lj
          rcases (hI'.own a o1 k1 li).2.2 with q | q
          · exact hout m2 m3 lj (e ▸ q)
          · have q' : w.heap.size ≤ (ι' a).1 := q
            omega
        · subst k; cases lj
      · rw [hin2 k1] at li ⊢
        rcases mrg_cases hp' hj with ⟨c, o2, m1, m2, m3⟩ | ⟨m1, m2, m3⟩ | k
        · subst m2
          rw [hιA m3] at lj ⊢
          rw [live_ren] at lj
          intro e
          obtain ⟨n1, n2, n3⟩ := hI.own i oi k2 li
          rcases (hI'.own c o2 m1 lj).2.2 with q | q
          · exact hout k2 k3 li (e ▸ q)
          · have q' : w.heap.size ≤ (ι' c).1 := q
            omega
        · rw [hin2 m1] at lj ⊢
          exact hI.inj i j _ _ k2 m2 hne li lj
        · subst k; cases lj
      · subst k; cases li
  refine (hc.2 G' ι0 I w vs hI0 hr0 hargl).mono ?_
  intro en w' hq
  cases en with
  | returned v =>
    obtain ⟨ι', I', r, h'', k1, k2, k3, k4, k5, k6⟩ := hq
    obtain ⟨ι2, e1, e2, e3⟩ := main k1 k2 k3
    refine ⟨ι2, I', r.ren (rho h.length ids p), mrg h ids p h'', e2, e3, by rw [mrg_length]; omega, ?_, ?_, hk (.ret r) h'' k3 k6⟩
    · rw [arel_ren, e1]; exact k4
    · refine lt_ren (n := h''.length) (fun j hj => ?_) r k5
      rw [mrg_length]
      simp only [rho]
      split
      · have : ρ0 j < h.length := hidl (by omega)
        simp only [ρ0] at this; omega
      · omega
  | panicked ch =>
    obtain ⟨ι', I', p', v, h'', k0, k1, k2, k3, k4, k5⟩ := hq
    obtain ⟨ι2, e1, e2, e3⟩ := main k1 k2 k3
    exact ⟨ι2, I', p', v, mrg h ids p h'', k0, e2, e3, by rw [mrg_length]; omega, k4, hk (.pan p') h'' k3 k5⟩
  | outgrown => exact hq.elim
end
end Go.Proofs.YtahamnipffckhaaDoor
