import Derived.Test.YtahamnipffckhaaDoorAm1
set_option linter.unusedVariables false
set_option linter.unusedSimpArgs false
namespace Go.Proofs.YtahamnipffckhaaDoor
open Go Go.RowKit

/-! ### 3. Own objects, the state -/
/-- What a map is keyed by. -/
inductive Key where
  | str (s : ByteArray)
  | int (k : IntKind) (n : Int)
  | si (s : ByteArray) (n : Int)
  deriving DecidableEq
def Key.val : Key → Value
  | .str s => .string s
  | .int k n => .int k n
  | .si s n => .agg #[.string s, .int .i64 n]
def Key.kind : Key → Nat
  | .str _ => 1
  | .int .i64 _ => 2
  | .int _ _ => 4
  | .si _ _ => 3
inductive AObj where
  | box (cs : List AV)
  | arr (t : TypeId) (sz : Nat) (es : List (List PV))
  | imm (sz : Nat) (es : List (List PV))
  | mp (kk : Nat) (f : Key → Option AV)
  | gone
  deriving Inhabited
abbrev AHeap := List AObj
def AObj.live : AObj → Nat → Bool
  | .box _, _ | .mp _ _, _ => true
  | .arr _ _ _, c => c != 0
  | _, _ => false
def AObj.lt (n : Nat) : AObj → Prop
  | .box cs => AV.ltL n cs
  | .mp _ f => ∀ k v, f k = some v → v.lt n
  | _ => True
theorem AObj.lt_mono {n m : Nat} (h : n ≤ m) : ∀ {o : AObj}, o.lt n → o.lt m
  | .box cs, hl => AV.ltL_mono h cs hl
  | .arr _ _ _, _ => trivial
  | .imm _ _, _ => trivial
  | .mp _ f, hl => fun k v hx => AV.lt_mono h v (hl k v hx)
  | .gone, _ => trivial
def arrRel (w : World) (I : Nat → Prop) (sz : Nat) : List (List PV) → List Value → Prop
  | [], _ => True
  | c :: cs, vs => c.length = sz ∧ sz ≤ vs.length ∧ (∀ p ∈ c, p.scalar = true) ∧ relL w I c (vs.take sz) ∧ arrRel w I sz cs (vs.drop sz)
def mapRel (w : World) (I : Nat → Prop) (ι : Nat → Nat × Nat) (kk : Nat) (f : Key → Option AV) (l : List MapEntry) : Prop :=
  (∀ e ∈ l, ∃ k v, e.key = k.val ∧ k.kind = kk ∧ f k = some v ∧ arel w I ι v e.val) ∧ (l.map (·.key)).Nodup ∧ ∀ k v, f k = some v → ∃ e ∈ l, e.key = k.val
def objRel (w : World) (I : Nat → Prop) (ι : Nat → Nat × Nat) (b cap : Nat) : AObj → Prop
  | .box cs => ∃ vs t, w.heap[b]? = some (.cells vs.toArray t (0, 0)) ∧ (∀ c ∈ cs, c.cell = true) ∧ arelL w I ι cs vs
  | .arr t sz es => (cap = 0 ∧ es = []) ∨ (cap ≠ 0 ∧ ∃ vs, w.heap[b]? = some (.cells vs.toArray t (0, 0)) ∧ vs.length = (cap - 1) * sz ∧ es.length ≤ cap - 1 ∧ cap - 1 ≤ maxLen ∧ es.length ≤ 140737488355328 ∧ arrRel w I sz es vs)
  | .imm sz es => (cap = 0 ∧ es = []) ∨ (cap ≠ 0 ∧ I b ∧ es.length ≤ cap - 1 ∧ es.length ≤ 140737488355328 ∧ relEls w I sz b es 0)
  | .mp kk f => ∃ ents clock, w.heap[b]? = some (.map ents clock) ∧ mapRel w I ι kk f ents.toList
  | .gone => True
section
variable {w w' : World} {I I' : Nat → Prop} {ι ι' : Nat → Nat × Nat}
theorem arrRel_keep {sz : Nat} (hk : ∀ b, I b → w'.heap[b]? = w.heap[b]?) (hi : ∀ b, I b → I' b) : ∀ {es : List (List PV)} {vs : List Value}, arrRel w I sz es vs → arrRel w' I' sz es vs
  | [], _, _ => trivial
  | c :: cs, vs, h => ⟨h.1, h.2.1, h.2.2.1, relL_keep hk hi _ _ h.2.2.2.1, arrRel_keep hk hi h.2.2.2.2⟩
theorem mapRel_ext {n kk : Nat} {f : Key → Option AV} {l : List MapEntry} (hE : Ext I I' ι ι' n w w') (hl : ∀ k v, f k = some v → v.lt n) (hm : mapRel w I ι kk f l) : mapRel w' I' ι' kk f l :=
  ⟨fun e he => by
    obtain ⟨k, v, h1, h2, h3, h4⟩ := hm.1 e he
    exact ⟨k, v, h1, h2, h3, arel_ext hE _ _ (hl k v h3) h4⟩, hm.2⟩
/-- What an object says lives on: its own block is as it was. -/
theorem objRel_ext {n b cap : Nat} (hE : Ext I I' ι ι' n w w') : ∀ {o : AObj}, (o.live cap = true → w'.heap[b]? = w.heap[b]?) → o.lt n → objRel w I ι b cap o → objRel w' I' ι' b cap o
  | .box cs, hb, hl, ⟨vs, t, h1, h2, h3⟩ => ⟨vs, t, (hb rfl).trans h1, h2, arelL_ext hE _ _ hl h3⟩
  | .arr t sz es, hb, _, .inl h => .inl h
  | .arr t sz es, hb, _, .inr ⟨h0, vs, h1, h2, h3, h4, h5, h6⟩ => .inr ⟨h0, vs, (hb (by simpa [AObj.live] using h0)).trans h1, h2, h3, h4, h5, arrRel_keep hE.hk hE.hi h6⟩
  | .imm sz es, _, _, .inl h => .inl h
  | .imm sz es, _, _, .inr ⟨h0, h1, h2, h3, h4⟩ => .inr ⟨h0, hE.hi _ h1, h2, h3, relEls_keep hE.hk hE.hi sz b h1 es 0 h4⟩
  | .mp _ f, hb, hl, ⟨ents, clock, h1, h2⟩ => ⟨ents, clock, (hb rfl).trans h1, mapRel_ext hE hl h2⟩
  | .gone, _, _, _ => trivial
end
structure Ghost where
  w0 : World
  O : Nat → Prop
  I0 : Nat → Prop
structure Inv (G : Ghost) (ι : Nat → Nat × Nat) (I : Nat → Prop) (h : AHeap) (w : World) : Prop where
  os : w.os = G.w0.os
  tape : w.tape = G.w0.tape
  output : w.output = G.w0.output ∧ G.w0.drawn ≤ w.drawn
  size : G.w0.heap.size ≤ w.heap.size
  frame : ∀ b, b < G.w0.heap.size → ¬ G.O b → w.heap[b]? = G.w0.heap[b]?
  sub : ∀ b, G.I0 b → I b
  bound : ∀ b, I b → b < w.heap.size ∧ (G.I0 b ∨ G.O b ∨ G.w0.heap.size ≤ b)
  obj : ∀ id o, h[id]? = some o → o.lt h.length ∧ objRel w I ι (ι id).1 (ι id).2 o
  own : ∀ id o, h[id]? = some o → o.live (ι id).2 = true → (ι id).1 < w.heap.size ∧ ¬ I (ι id).1 ∧ (G.O (ι id).1 ∨ G.w0.heap.size ≤ (ι id).1)
  inj : ∀ i j oi oj, h[i]? = some oi → h[j]? = some oj → i ≠ j → oi.live (ι i).2 = true → oj.live (ι j).2 = true → (ι i).1 ≠ (ι j).1
section
variable {G : Ghost} {ι : Nat → Nat × Nat} {I : Nat → Prop} {h : AHeap} {w : World}
/-- The world has grown; more blocks never change. -/
theorem Inv.grow {I' : Nat → Prop} {w' : World} (hI : Inv G ι I h w) (hb : Below w.heap.size w w') (hd : w.drawn ≤ w'.drawn) (hi : ∀ b, I b → I' b) (hn : ∀ b, I' b → I b ∨ (w.heap.size ≤ b ∧ b < w'.heap.size)) :
    Inv G ι I' h w' ∧ Ext I I' ι ι h.length w w' := by
  have hE : Ext I I' ι ι h.length w w' := ⟨hi, fun b hb' => hb.block b (hI.bound b hb').1, fun _ _ => rfl⟩
  refine ⟨⟨hb.os.trans hI.os, hb.tape.trans hI.tape, ⟨hb.output.trans hI.output.1, Nat.le_trans hI.output.2 hd⟩, Nat.le_trans hI.size hb.size, fun b h1 h2 => (hb.block b (Nat.lt_of_lt_of_le h1 hI.size)).trans (hI.frame b h1 h2), fun b h1 => hi b (hI.sub b h1), fun b h1 => ?_, fun id o ho => ?_, fun id o ho hl => ?_, hI.inj⟩, hE⟩
  · rcases hn b h1 with h2 | h2
    · exact ⟨Nat.lt_of_lt_of_le (hI.bound b h2).1 hb.size, (hI.bound b h2).2⟩
    · exact ⟨h2.2, .inr (.inr (Nat.le_trans hI.size h2.1))⟩
  · obtain ⟨h1, h2⟩ := hI.obj id o ho
    exact ⟨h1, objRel_ext hE (fun hl => hb.block _ (hI.own id o ho hl).1) h1 h2⟩
  · obtain ⟨h1, h2, h3⟩ := hI.own id o ho hl
    refine ⟨Nat.lt_of_lt_of_le h1 hb.size, fun h4 => ?_, h3⟩
    rcases hn _ h4 with h5 | h5
    · exact h2 h5
    · omega
def upd (ι : Nat → Nat × Nat) (n : Nat) (x : Nat × Nat) : Nat → Nat × Nat := fun id => if id = n then x else ι id
theorem upd_same (ι : Nat → Nat × Nat) (n : Nat) (x : Nat × Nat) : upd ι n x n = x := by simp [upd]
theorem upd_ne {ι : Nat → Nat × Nat} {n id : Nat} {x : Nat × Nat} (h : id ≠ n) : upd ι n x id = ι id := by simp [upd, h]
/-- A new object: whatever block it has is nobody's yet. -/
theorem Inv.push (hI : Inv G ι I h w) (o : AObj) (b cap : Nat) (hl : o.lt h.length) (ho : objRel w I ι b cap o)
    (hlive : o.live cap = true → b < w.heap.size ∧ ¬ I b ∧ (G.O b ∨ G.w0.heap.size ≤ b) ∧ ∀ i oi, h[i]? = some oi → oi.live (ι i).2 = true → (ι i).1 ≠ b) :
    Inv G (upd ι h.length (b, cap)) I (h ++ [o]) w ∧ Ext I I ι (upd ι h.length (b, cap)) h.length w w := by
  have hE : Ext I I ι (upd ι h.length (b, cap)) h.length w w := ⟨fun _ x => x, fun _ _ => rfl, fun id hid => upd_ne (by omega)⟩
  have hget : ∀ id o', (h ++ [o])[id]? = some o' → (id < h.length ∧ h[id]? = some o') ∨ (id = h.length ∧ o' = o) := by
    intro id o' hx
    rcases Nat.lt_trichotomy id h.length with h1 | h1 | h1
    · rw [List.getElem?_append_left h1] at hx; exact .inl ⟨h1, hx⟩
    · subst h1; simp at hx; exact .inr ⟨rfl, hx.symm⟩
    · rw [List.getElem?_eq_none (by simp; omega)] at hx; cases hx
  refine ⟨⟨hI.os, hI.tape, hI.output, hI.size, hI.frame, hI.sub, hI.bound, fun id o' hx => ?_, fun id o' hx hl' => ?_, fun i j oi oj hi hj hne li lj => ?_⟩, hE⟩
  · rcases hget id o' hx with ⟨h1, h2⟩ | ⟨h1, h2⟩
    · obtain ⟨h3, h4⟩ := hI.obj id o' h2
      rw [upd_ne (by omega)]
      exact ⟨AObj.lt_mono (by simp) h3, objRel_ext hE (fun _ => rfl) h3 h4⟩
    · subst h1; subst h2
      rw [upd_same]
      exact ⟨AObj.lt_mono (by simp) hl, objRel_ext hE (fun _ => rfl) hl ho⟩
  · rcases hget id o' hx with ⟨h1, h2⟩ | ⟨h1, h2⟩
    · rw [upd_ne (by omega)] at hl' ⊢; exact hI.own id o' h2 hl'
    · subst h1; subst h2; rw [upd_same] at hl' ⊢; exact ⟨(hlive hl').1, (hlive hl').2.1, (hlive hl').2.2.1⟩
  · rcases hget i oi hi with ⟨h1, h2⟩ | ⟨h1, h2⟩ <;> rcases hget j oj hj with ⟨h3, h4⟩ | ⟨h3, h4⟩
    · rw [upd_ne (by omega)] at li lj ⊢; rw [upd_ne (by omega)]; exact hI.inj i j oi oj h2 h4 hne li lj
    · subst h3; subst h4; rw [upd_ne (by omega)] at li ⊢; rw [upd_same] at lj ⊢; exact (hlive lj).2.2.2 i oi h2 li
    · subst h1; subst h2; rw [upd_same] at li ⊢; rw [upd_ne (by omega)] at lj ⊢; exact fun e => (hlive li).2.2.2 j oj h4 lj e.symm
    · omega
/-- An own object is written: nothing but its own block has turned. -/
theorem Inv.write {w' : World} {id : Nat} {o o' : AObj} (hI : Inv G ι I h w) (ho : h[id]? = some o) (hl : o.live (ι id).2 = true)
    (hos : w'.os = w.os) (ht : w'.tape = w.tape) (hout : w'.output = w.output ∧ w.drawn ≤ w'.drawn) (hs : w'.heap.size = w.heap.size) (hoth : ∀ b, b ≠ (ι id).1 → w'.heap[b]? = w.heap[b]?)
    (hlt : o'.lt h.length) (hr : objRel w' I ι (ι id).1 (ι id).2 o') : Inv G ι I (h.set id o') w' ∧ Ext I I ι ι h.length w w' := by
  obtain ⟨q1, q2, q3⟩ := hI.own id o ho hl
  have hlen : id < h.length := (List.getElem?_eq_some_iff.1 ho).1
  have hE : Ext I I ι ι h.length w w' := ⟨fun _ x => x, fun b hb => hoth b (fun e => q2 (e ▸ hb)), fun _ _ => rfl⟩
  have hget : ∀ j oj, (h.set id o')[j]? = some oj → (j = id ∧ oj = o') ∨ (j ≠ id ∧ h[j]? = some oj) := by
    intro j oj hx
    by_cases e : j = id
    · subst e; rw [List.getElem?_set_self hlen] at hx; simp at hx; exact .inl ⟨rfl, hx.symm⟩
    · rw [List.getElem?_set_ne (fun x => e x.symm)] at hx; exact .inr ⟨e, hx⟩
  refine ⟨⟨hos.trans hI.os, ht.trans hI.tape, ⟨hout.1.trans hI.output.1, Nat.le_trans hI.output.2 hout.2⟩, by rw [hs]; exact hI.size, fun b h1 h2 => ?_, hI.sub, fun b hb => by rw [hs]; exact hI.bound b hb, fun j oj hx => ?_, fun j oj hx hj => ?_, fun i j oi oj hi hj hne li lj => ?_⟩, hE⟩
  · by_cases e : b = (ι id).1
    · subst e; rcases q3 with h3 | h3
      · exact absurd h3 h2
      · omega
    · exact (hoth b e).trans (hI.frame b h1 h2)
  · rcases hget j oj hx with ⟨h1, h2⟩ | ⟨h1, h2⟩
    · subst h1; subst h2; exact ⟨by simpa using hlt, hr⟩
    · obtain ⟨h3, h4⟩ := hI.obj j oj h2
      exact ⟨by simpa using h3, objRel_ext hE (fun hlj => hoth _ (hI.inj j id oj o h2 ho h1 hlj hl)) h3 h4⟩
  · rw [hs]
    rcases hget j oj hx with ⟨h1, h2⟩ | ⟨h1, h2⟩
    · subst h1; exact ⟨q1, q2, q3⟩
    · exact hI.own j oj h2 hj
  · rcases hget i oi hi with ⟨h1, h2⟩ | ⟨h1, h2⟩ <;> rcases hget j oj hj with ⟨h3, h4⟩ | ⟨h3, h4⟩
    · omega
    · subst h1; exact fun e => hI.inj j i oj o h4 ho h3 lj hl e.symm
    · subst h3; exact hI.inj i j oi o h2 ho h1 li hl
    · exact hI.inj i j oi oj h2 h4 hne li lj
/-- An object is let go. -/
theorem Inv.let {id : Nat} (hI : Inv G ι I h w) : Inv G ι I (h.set id .gone) w := by
  by_cases hlen : id < h.length
  case neg => rw [List.set_eq_of_length_le (by omega)]; exact hI
  have hget : ∀ j oj, (h.set id .gone)[j]? = some oj → (j = id ∧ oj = .gone) ∨ (j ≠ id ∧ h[j]? = some oj) := by
    intro j oj hx
    by_cases e : j = id
    · subst e; rw [List.getElem?_set_self hlen] at hx; simp at hx; exact .inl ⟨rfl, hx.symm⟩
    · rw [List.getElem?_set_ne (fun x => e x.symm)] at hx; exact .inr ⟨e, hx⟩
  refine ⟨hI.os, hI.tape, hI.output, hI.size, hI.frame, hI.sub, hI.bound, fun j oj hx => ?_, fun j oj hx hj => ?_, fun i j oi oj hi hj hne li lj => ?_⟩
  · rcases hget j oj hx with ⟨h1, h2⟩ | ⟨h1, h2⟩
    · subst h2; exact ⟨trivial, trivial⟩
    · simpa using hI.obj j oj h2
  · rcases hget j oj hx with ⟨h1, h2⟩ | ⟨h1, h2⟩
    · subst h2; cases hj
    · exact hI.own j oj h2 hj
  · rcases hget i oi hi with ⟨h1, h2⟩ | ⟨h1, h2⟩ <;> rcases hget j oj hj with ⟨h3, h4⟩ | ⟨h3, h4⟩
    · omega
    · subst h2; cases li
    · subst h4; cases lj
    · exact hI.inj i j oi oj h2 h4 hne li lj
theorem arrRel_els {sz : Nat} : ∀ {es : List (List PV)} {vs all : List Value} {b k : Nat} {t : TypeId} {I' : Nat → Prop}, arrRel w I sz es vs → w.heap[b]? = some (.cells all.toArray t (0, 0)) → vs = all.drop k → (∀ b, I b → I' b) → relEls w I' sz b es k
  | [], _, _, _, _, _, _, _, _, _, _ => by simp [relEls]
  | c :: cs, vs, all, b, k, t, I', ⟨h1, h0, h2, h3, h4⟩, hb, hv, hi => by
    simp only [relEls]
    refine ⟨h1, ?_, arrRel_els h4 hb (by rw [hv, List.drop_drop]) hi⟩
    have key : ∀ (c : List PV) (us : List Value) (o : Nat), (∀ p ∈ c, p.scalar = true) → relL w I c us → (∀ j u, us[j]? = some u → all[o + j]? = some u) → relAt w I' b c o := by
      intro c
      induction c with
      | nil => intro us o _ _ _; simp [relAt]
      | cons p c ih =>
        intro us o hs hr hu
        simp only [relL] at hr
        obtain ⟨u, us', rfl, r1, r2⟩ := hr
        simp only [relAt]
        refine ⟨⟨hs p (by simp), u, ?_, rel_keep (fun _ _ => rfl) hi p u r1⟩, ih us' (o + 1) (fun q hq => hs q (by simp [hq])) r2 fun j v hv => ?_⟩
        · have := hu 0 u (by simp)
          simp only [World.cell?, hb]
          simpa using this
        · have := hu (j + 1) v (by simpa using hv)
          rw [show o + 1 + j = o + (j + 1) by omega]; exact this
    refine key c _ k h2 h3 fun j u hu => ?_
    rw [hv] at hu
    rw [List.getElem?_take] at hu
    split at hu
    · rw [List.getElem?_drop] at hu; exact hu
    · cases hu
/-- An own array will never change again. -/
theorem Inv.freeze {id : Nat} {t : TypeId} {sz : Nat} {es : List (List PV)} (hI : Inv G ι I h w) (ho : h[id]? = some (.arr t sz es)) :
    ∃ I', Inv G ι I' (h.set id (.imm sz es)) w ∧ Ext I I' ι ι h.length w w := by
  have hlen : id < h.length := (List.getElem?_eq_some_iff.1 ho).1
  have hget : ∀ j oj, (h.set id (.imm sz es))[j]? = some oj → (j = id ∧ oj = .imm sz es) ∨ (j ≠ id ∧ h[j]? = some oj) := by
    intro j oj hx
    by_cases e : j = id
    · subst e; rw [List.getElem?_set_self hlen] at hx; simp at hx; exact .inl ⟨rfl, hx.symm⟩
    · rw [List.getElem?_set_ne (fun x => e x.symm)] at hx; exact .inr ⟨e, hx⟩
  rcases (hI.obj id _ ho).2 with ⟨p0, p1⟩ | ⟨p0, vs, p1, p2, p3, p4, p5, p6⟩
  · refine ⟨I, ⟨hI.os, hI.tape, hI.output, hI.size, hI.frame, hI.sub, hI.bound, fun j oj hx => ?_, fun j oj hx hj => ?_, fun i j oi oj hi hj hne li lj => ?_⟩, Ext.refl _ _ _ _⟩
    · rcases hget j oj hx with ⟨h1, h2⟩ | ⟨h1, h2⟩
      · subst h1; subst h2; exact ⟨trivial, .inl ⟨p0, p1⟩⟩
      · simpa using hI.obj j oj h2
    · rcases hget j oj hx with ⟨h1, h2⟩ | ⟨h1, h2⟩
      · subst h2; cases hj
      · exact hI.own j oj h2 hj
    · rcases hget i oi hi with ⟨h1, h2⟩ | ⟨h1, h2⟩ <;> rcases hget j oj hj with ⟨h3, h4⟩ | ⟨h3, h4⟩
      · omega
      · subst h2; cases li
      · subst h4; cases lj
      · exact hI.inj i j oi oj h2 h4 hne li lj
  · have hlv : (AObj.arr t sz es).live (ι id).2 = true := by simpa [AObj.live] using p0
    obtain ⟨q1, q2, q3⟩ := hI.own id _ ho hlv
    have hE : Ext I (fun b => I b ∨ b = (ι id).1) ι ι h.length w w := ⟨fun _ x => .inl x, fun _ _ => rfl, fun _ _ => rfl⟩
    refine ⟨_, ⟨hI.os, hI.tape, hI.output, hI.size, hI.frame, fun b hb => .inl (hI.sub b hb), fun b hb => ?_, fun j oj hx => ?_, fun j oj hx hj => ?_, fun i j oi oj hi hj hne li lj => ?_⟩, hE⟩
    · rcases hb with hb | hb
      · exact hI.bound b hb
      · subst hb; exact ⟨q1, q3.elim (fun x => .inr (.inl x)) (fun x => .inr (.inr x))⟩
    · rcases hget j oj hx with ⟨h1, h2⟩ | ⟨h1, h2⟩
      · subst h1; subst h2; exact ⟨trivial, .inr ⟨p0, .inr rfl, p3, p5, arrRel_els p6 p1 (by simp) (fun _ x => .inl x)⟩⟩
      · obtain ⟨h3, h4⟩ := hI.obj j oj h2
        exact ⟨by simpa using h3, objRel_ext hE (fun _ => rfl) h3 h4⟩
    · rcases hget j oj hx with ⟨h1, h2⟩ | ⟨h1, h2⟩
      · subst h2; cases hj
      · obtain ⟨r1, r2, r3⟩ := hI.own j oj h2 hj
        exact ⟨r1, fun x => x.elim r2 (hI.inj j id oj _ h2 ho h1 hj hlv), r3⟩
    · rcases hget i oi hi with ⟨h1, h2⟩ | ⟨h1, h2⟩ <;> rcases hget j oj hj with ⟨h3, h4⟩ | ⟨h3, h4⟩
      · omega
      · subst h2; cases li
      · subst h4; cases lj
      · exact hI.inj i j oi oj h2 h4 hne li lj
end

/-! ### 4. The frame -/
abbrev AEnv := Nat → AV
def AEnv.put (e : AEnv) (d : Nat) (v : AV) : AEnv := fun t => if t = d then v else e t
structure ERel (N n : Nat) (w : World) (I : Nat → Prop) (ι : Nat → Nat × Nat) (e : AEnv) (a : Act) : Prop where
  size : a.tmps.size = N
  out : ∀ t, N ≤ t → e t = .undef
  lt : ∀ t, (e t).lt n
  rel : ∀ t, arel w I ι (e t) (a.tmps.getD t Go.undef)
section
variable {N n : Nat} {w w' : World} {I I' : Nat → Prop} {ι ι' : Nat → Nat × Nat} {e : AEnv} {a : Act}
theorem ERel.ext {m : Nat} (h : ERel N n w I ι e a) (hE : Ext I I' ι ι' n w w') (hm : n ≤ m) : ERel N m w' I' ι' e a :=
  ⟨h.size, h.out, fun t => AV.lt_mono hm _ (h.lt t), fun t => arel_ext hE _ _ (h.lt t) (h.rel t)⟩
theorem ERel.put (h : ERel N n w I ι e a) {d : Nat} (hd : d < N) {v : AV} {u : Value} (hv : arel w I ι v u) (hl : v.lt n) : ERel N n w I ι (e.put d v) (a.put (some d) u) := by
  refine ⟨by simp [Act.put, h.size], fun t ht => ?_, fun t => ?_, fun t => ?_⟩
  · simp only [AEnv.put]; rw [if_neg (by omega)]; exact h.out t ht
  · simp only [AEnv.put]; split
    · exact hl
    · exact h.lt t
  · simp only [AEnv.put, Act.put]
    by_cases e1 : t = d
    · subst e1
      rw [if_pos rfl]
      have : t < a.tmps.size := by rw [h.size]; exact hd
      simp [Array.getD, this]
      exact hv
    · rw [if_neg e1]
      have := h.rel t
      simp only [Array.getD_eq_getD_getElem?] at this ⊢
      rw [Array.getElem?_setIfInBounds_ne (fun x => e1 x.symm)]
      exact this
/-- What is not wanted any more may be forgotten. -/
theorem ERel.forget (h : ERel N n w I ι e a) {e' : AEnv} (he : ∀ t, e' t = e t ∨ e' t = .undef) : ERel N n w I ι e' a := by
  refine ⟨h.size, fun t ht => ?_, fun t => ?_, fun t => ?_⟩
  · rcases he t with h1 | h1
    · rw [h1]; exact h.out t ht
    · exact h1
  · rcases he t with h1 | h1 <;> rw [h1]
    · exact h.lt t
    · trivial
  · rcases he t with h1 | h1 <;> rw [h1]
    · exact h.rel t
    · simp [arel]
end
def cst0 : Value → Option AV
  | .bool b => some (.pv (.bool b))
  | .int k n => some (.pv (.int k n))
  | .string s => some (.pv (.str s))
  | .pointer none => some (.pv .nilp)
  | .slice none 0 0 => some .nils
  | .nilFunc => some (.pv .nilfn)
  | .map none => some (.pv .nilm)
  | .nilIface => some (.pv .nilifc)
  | _ => none
def cstL : List Value → Option (List AV)
  | [] => some []
  | v :: vs => match cst0 v, cstL vs with
    | some x, some xs => some (x :: xs)
    | _, _ => none
def pvs : List AV → Option (List PV)
  | [] => some []
  | .pv p :: r => match pvs r with
    | some ps => some (p :: ps)
    | none => none
  | _ :: _ => none
def mkAgg (cs : List AV) : AV := match pvs cs with
  | some ps => .pv (.agg ps)
  | none => .agg cs
def cst (v : Value) : AV := match v with
  | .agg cs => match cstL cs.toList with
    | some xs => mkAgg xs
    | none => .undef
  | v => (cst0 v).getD .undef
def opd (e : AEnv) : Operand → AV
  | .tmp t => e t
  | .const v => cst v
  | .global _ => .undef
  | .func f => .pv (.fn f)
section
variable {N n : Nat} {w : World} {I : Nat → Prop} {ι : Nat → Nat × Nat} {e : AEnv} {a : Act}
theorem cst0_rel {v : Value} {x : AV} (h : cst0 v = some x) : arel w I ι x v ∧ x.lt n ∧ x.cell = true := by
  unfold cst0 at h
  split at h <;> (try cases h) <;> simp [arel, rel, AV.lt, AV.cell, PV.scalar]
theorem cstL_rel : ∀ {vs : List Value} {xs : List AV}, cstL vs = some xs → arelL w I ι xs vs ∧ AV.ltL n xs ∧ ∀ c ∈ xs, c.cell = true
  | [], xs, h => by simp only [cstL] at h; cases h; simp [arelL, AV.ltL]
  | v :: vs, xs, h => by
    simp only [cstL] at h
    split at h
    · rename_i x xs' h1 h2
      cases h
      obtain ⟨a1, a2, a3⟩ := cst0_rel (w := w) (I := I) (ι := ι) (n := n) h1
      obtain ⟨b1, b2, b3⟩ := cstL_rel (vs := vs) h2
      simp only [arelL, AV.ltL]
      exact ⟨⟨v, vs, rfl, a1, b1⟩, ⟨a2, b2⟩, fun c hc => by
        rcases List.mem_cons.1 hc with h | h
        · subst h; exact a3
        · exact b3 c h⟩
    · cases h
theorem pvs_eq : ∀ {cs : List AV} {ps : List PV}, pvs cs = some ps → cs = ps.map .pv
  | [], ps, h => by simp only [pvs] at h; cases h; rfl
  | .pv p :: r, ps, h => by
    simp only [pvs] at h
    split at h
    · rename_i qs hq; cases h; simp [pvs_eq hq]
    · cases h
  | .nils :: _, _, h | .ptr _ _ :: _, _, h | .eptr _ _ _ _ :: _, _, h | .iptr _ :: _, _, h | .osl _ _ :: _, _, h | .osb _ _ _ _ :: _, _, h | .agg _ :: _, _, h | .tup _ :: _, _, h | .fn _ _ :: _, _, h | .mp _ :: _, _, h | .undef :: _, _, h => by simp [pvs] at h
theorem mkAgg_rel {cs : List AV} {vs : List Value} (h : arelL w I ι cs vs) (hc : ∀ c ∈ cs, c.cell = true) (hl : AV.ltL n cs) : arel w I ι (mkAgg cs) (.agg vs.toArray) ∧ (mkAgg cs).lt n := by
  unfold mkAgg
  split
  · rename_i ps hp
    have := pvs_eq hp
    subst this
    refine ⟨?_, trivial⟩
    simp only [arel, rel]
    refine ⟨vs, rfl, fun c hx => ?_, arelL_map_pv.2 h⟩
    exact hc (.pv c) (List.mem_map.2 ⟨c, hx, rfl⟩)
  · simp only [arel, AV.lt]; exact ⟨⟨vs, rfl, hc, h⟩, hl⟩
theorem cst_rel (v : Value) : arel w I ι (cst v) v ∧ (cst v).lt n := by
  have gen : ∀ v : Value, arel w I ι ((cst0 v).getD .undef) v ∧ ((cst0 v).getD .undef).lt n := by
    intro v
    cases h : cst0 v with
    | none => simp [arel, AV.lt]
    | some x => obtain ⟨h1, h2, _⟩ := cst0_rel (w := w) (I := I) (ι := ι) (n := n) h; exact ⟨h1, h2⟩
  by_cases hv : ∃ cs, v = .agg cs
  · obtain ⟨cs, rfl⟩ := hv
    simp only [cst]
    split
    · rename_i xs hx
      obtain ⟨h1, h2, h3⟩ := cstL_rel (w := w) (I := I) (ι := ι) (n := n) hx
      simpa using mkAgg_rel h1 h3 h2
    · simp [arel, AV.lt]
  · have : cst v = (cst0 v).getD .undef := by cases v <;> first | rfl | exact absurd ⟨_, rfl⟩ hv
    rw [this]; exact gen v
theorem opd_rel (h : ERel N n w I ι e a) (x : Operand) : arel w I ι (opd e x) (a.eval x) ∧ (opd e x).lt n := by
  cases x with
  | tmp t => exact ⟨h.rel t, h.lt t⟩
  | const v => exact cst_rel v
  | global g => simp [opd, arel, AV.lt]
  | func f => simp [opd, arel, rel, Act.eval, AV.lt]
end
/-- What stands in a value's cells. -/
def AV.cells : AV → List AV
  | .agg cs => cs
  | .pv (.agg ps) => ps.map .pv
  | v => [v]
/-- May it be stored? -/
def AV.solid : AV → Bool
  | .agg _ | .pv (.agg _) => true
  | v => v.cell
section
variable {n : Nat} {w : World} {I : Nat → Prop} {ι : Nat → Nat × Nat}
theorem cells_rel {x : AV} {v : Value} (h : arel w I ι x v) (hs : x.solid = true) (hl : x.lt n) : arelL w I ι x.cells v.cells.toList ∧ (∀ c ∈ x.cells, c.cell = true) ∧ AV.ltL n x.cells := by
  have one : ∀ {x : AV} {v : Value}, arel w I ι x v → x.cell = true → x.lt n → arelL w I ι [x] v.cells.toList ∧ (∀ c ∈ [x], c.cell = true) ∧ AV.ltL n [x] := by
    intro x v h hc hl
    have hv := arel_oneCell h hc
    have : v.cells = #[v] := by cases v <;> first | rfl | simp [Value.oneCell'] at hv
    rw [this]
    simp only [arelL, AV.ltL]
    exact ⟨⟨v, [], rfl, h, rfl⟩, by simpa using hc, hl, trivial⟩
  cases x with
  | agg cs =>
    simp only [arel, AV.lt] at h hl
    obtain ⟨vs, rfl, h1, h2⟩ := h
    exact ⟨by simpa [Value.cells, AV.cells] using h2, h1, hl⟩
  | pv p =>
    cases p with
    | agg ps =>
      simp only [arel, rel] at h
      obtain ⟨vs, rfl, h1, h2⟩ := h
      refine ⟨by simpa [Value.cells, AV.cells] using arelL_map_pv.1 h2, ?_, ?_⟩
      · intro c hc
        simp only [AV.cells, List.mem_map] at hc
        obtain ⟨p, hp, rfl⟩ := hc
        exact h1 p hp
      · rw [AV.ltL_iff]
        intro c hc
        simp only [AV.cells, List.mem_map] at hc
        obtain ⟨p, hp, rfl⟩ := hc
        trivial
    | _ => first | exact one h hs hl | (simp [AV.solid, AV.cell, PV.scalar] at hs)
  | _ => first | exact one h hs hl | (simp [AV.solid, AV.cell] at hs)
end
end Go.Proofs.YtahamnipffckhaaDoor
