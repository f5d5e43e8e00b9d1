import Derived.WalkKit
import Derived.Test.YtahamnipffckhaaDoorAm0
import Derived.Maps.AppendAt
set_option linter.unusedVariables false
set_option linter.unusedSimpArgs false
namespace Go.Proofs.YtahamnipffckhaaDoor
open Go

/-! ### 1. Pure values; what a machine value must be to stand for one -/
inductive PV where
  | int (k : IntKind) (n : Int)
  | bool (b : Bool)
  | str (s : ByteArray)
  | nilp
  | sl (es : List (List PV))
  | agg (cs : List PV)
  | tup (vs : List PV)
  | fn (f : FuncId)
  | nilfn
  | nilm
  | yl (l : Nat)
  | ifc (t : TypeId) (v : PV)
  | nilifc
  deriving Inhabited
def PV.scalar : PV → Bool
  | .agg _ | .tup _ => false
  | _ => true
mutual
def rel (w : World) (I : Nat → Prop) : PV → Value → Prop
  | .int k n, v => v = .int k n
  | .bool b, v => v = .bool b
  | .str s, v => v = .string s
  | .nilp, v => v = .pointer none
  | .sl es, v => ∃ A cap, v = .slice A es.length cap ∧ es.length ≤ cap ∧ es.length ≤ 140737488355328 ∧ (es = [] ∨ ∃ b o sz, A = some ⟨b, o, none⟩ ∧ I b ∧ relEls w I sz b es o)
  | .agg cs, v => ∃ vs, v = .agg vs.toArray ∧ (∀ c ∈ cs, c.scalar = true) ∧ relL w I cs vs
  | .tup cs, v => ∃ vs, v = .tuple vs.toArray ∧ relL w I cs vs
  | .fn f, v => v = .func (.func f) #[] #[]
  | .nilfn, v => v = .nilFunc
  | .nilm, v => v = .map none
  | .yl l, v => v = .func (.yield l) #[] #[]
  | .ifc t p, v => ∃ u, v = .iface t u ∧ rel w I p u
  | .nilifc, v => v = .nilIface
def relL (w : World) (I : Nat → Prop) : List PV → List Value → Prop
  | [], vs => vs = []
  | p :: ps, vs => ∃ u us, vs = u :: us ∧ rel w I p u ∧ relL w I ps us
def relAt (w : World) (I : Nat → Prop) (b : Nat) : List PV → Nat → Prop
  | [], _ => True
  | p :: ps, o => (p.scalar = true ∧ ∃ u, w.cell? ⟨b, o, none⟩ = some u ∧ rel w I p u) ∧ relAt w I b ps (o + 1)
def relEls (w : World) (I : Nat → Prop) (sz b : Nat) : List (List PV) → Nat → Prop
  | [], _ => True
  | c :: cs, o => c.length = sz ∧ relAt w I b c o ∧ relEls w I sz b cs (o + sz)
end
mutual
theorem rel_keep {w w' : World} {I I' : Nat → Prop} (hk : ∀ b, I b → w'.heap[b]? = w.heap[b]?) (hi : ∀ b, I b → I' b) : ∀ (p : PV) (v : Value), rel w I p v → rel w' I' p v
  | .int k n, v, h => by simpa [rel] using h
  | .bool b, v, h => by simpa [rel] using h
  | .str s, v, h => by simpa [rel] using h
  | .nilp, v, h => by simpa [rel] using h
  | .sl es, v, h => by
    simp only [rel] at h ⊢
    obtain ⟨A, cap, h1, h2, h3, h4⟩ := h
    refine ⟨A, cap, h1, h2, h3, h4.imp id ?_⟩
    rintro ⟨b, o, sz, h5, h6, h7⟩
    exact ⟨b, o, sz, h5, hi _ h6, relEls_keep hk hi sz b h6 es o h7⟩
  | .agg cs, v, h => by
    simp only [rel] at h ⊢
    obtain ⟨vs, h1, h0, h2⟩ := h
    exact ⟨vs, h1, h0, relL_keep hk hi cs vs h2⟩
  | .tup cs, v, h => by
    simp only [rel] at h ⊢
    obtain ⟨vs, h1, h2⟩ := h
    exact ⟨vs, h1, relL_keep hk hi cs vs h2⟩
  | .fn f, v, h => by simpa [rel] using h
  | .nilfn, v, h => by simpa [rel] using h
  | .nilm, v, h => by simpa [rel] using h
  | .yl l, v, h => by simpa [rel] using h
  | .ifc t p, v, h => by
    simp only [rel] at h ⊢
    obtain ⟨u, h1, h2⟩ := h
    exact ⟨u, h1, rel_keep hk hi p u h2⟩
  | .nilifc, v, h => by simpa [rel] using h
theorem relL_keep {w w' : World} {I I' : Nat → Prop} (hk : ∀ b, I b → w'.heap[b]? = w.heap[b]?) (hi : ∀ b, I b → I' b) : ∀ (ps : List PV) (vs : List Value), relL w I ps vs → relL w' I' ps vs
  | [], vs, h => by simpa [relL] using h
  | p :: ps, vs, h => by
    simp only [relL] at h ⊢
    obtain ⟨u, us, h1, h2, h3⟩ := h
    exact ⟨u, us, h1, rel_keep hk hi p u h2, relL_keep hk hi ps us h3⟩
theorem relAt_keep {w w' : World} {I I' : Nat → Prop} (hk : ∀ b, I b → w'.heap[b]? = w.heap[b]?) (hi : ∀ b, I b → I' b) (b : Nat) (hb : I b) : ∀ (ps : List PV) (o : Nat), relAt w I b ps o → relAt w' I' b ps o
  | [], _, _ => by simp [relAt]
  | p :: ps, o, h => by
    simp only [relAt] at h ⊢
    obtain ⟨⟨h0, u, h1, h2⟩, h3⟩ := h
    refine ⟨⟨h0, u, ?_, rel_keep hk hi p u h2⟩, relAt_keep hk hi b hb ps (o + 1) h3⟩
    rw [← h1]; simp only [World.cell?, hk b hb]
theorem relEls_keep {w w' : World} {I I' : Nat → Prop} (hk : ∀ b, I b → w'.heap[b]? = w.heap[b]?) (hi : ∀ b, I b → I' b) (sz b : Nat) (hb : I b) : ∀ (es : List (List PV)) (o : Nat), relEls w I sz b es o → relEls w' I' sz b es o
  | [], _, _ => by simp [relEls]
  | c :: cs, o, h => by
    simp only [relEls] at h ⊢
    exact ⟨h.1, relAt_keep hk hi b hb c o h.2.1, relEls_keep hk hi sz b hb cs (o + sz) h.2.2⟩
end
theorem relL_length {w : World} {I : Nat → Prop} : ∀ {ps : List PV} {vs : List Value}, relL w I ps vs → vs.length = ps.length
  | [], vs, h => by simp only [relL] at h; subst h; rfl
  | p :: ps, vs, h => by
    simp only [relL] at h
    obtain ⟨u, us, rfl, _, h3⟩ := h
    simp [relL_length h3]
theorem relL_get {w : World} {I : Nat → Prop} : ∀ {ps : List PV} {vs : List Value} {i : Nat} {p : PV}, relL w I ps vs → ps[i]? = some p → ∃ u, vs[i]? = some u ∧ rel w I p u
  | [], vs, i, p, h, hi => by simp at hi
  | q :: ps, vs, i, p, h, hi => by
    simp only [relL] at h
    obtain ⟨u, us, rfl, h1, h3⟩ := h
    cases i with
    | zero => simp at hi; subst hi; exact ⟨u, by simp, h1⟩
    | succ i => simpa using relL_get h3 (by simpa using hi)
theorem relL_drop {w : World} {I : Nat → Prop} : ∀ {ps : List PV} {vs : List Value} (n : Nat), relL w I ps vs → relL w I (ps.drop n) (vs.drop n)
  | [], vs, n, h => by simp only [relL] at h; subst h; simp [relL]
  | q :: ps, vs, n, h => by
    cases n with
    | zero => simpa using h
    | succ n =>
      simp only [relL] at h
      obtain ⟨u, us, rfl, h1, h3⟩ := h
      simpa using relL_drop n h3
theorem relL_take {w : World} {I : Nat → Prop} : ∀ {ps : List PV} {vs : List Value} (n : Nat), relL w I ps vs → relL w I (ps.take n) (vs.take n)
  | [], vs, n, h => by simp only [relL] at h; subst h; simp [relL]
  | q :: ps, vs, n, h => by
    cases n with
    | zero => simp [relL]
    | succ n =>
      simp only [relL] at h
      obtain ⟨u, us, rfl, h1, h3⟩ := h
      simp only [List.take_succ_cons, relL]
      exact ⟨u, _, rfl, h1, relL_take n h3⟩
theorem relAt_drop {w : World} {I : Nat → Prop} {b : Nat} : ∀ {ps : List PV} {o : Nat} (n : Nat), relAt w I b ps o → relAt w I b (ps.drop n) (o + n)
  | [], o, n, h => by simp [relAt]
  | q :: ps, o, n, h => by
    cases n with
    | zero => simpa using h
    | succ n =>
      simp only [relAt] at h
      have := relAt_drop n h.2
      rw [show o + (n + 1) = o + 1 + n by omega]
      simpa using this
theorem relAt_take {w : World} {I : Nat → Prop} {b : Nat} : ∀ {ps : List PV} {o : Nat} (n : Nat), relAt w I b ps o → relAt w I b (ps.take n) o
  | [], o, n, h => by simp [relAt]
  | q :: ps, o, n, h => by
    cases n with
    | zero => simp [relAt]
    | succ n =>
      simp only [relAt, List.take_succ_cons] at h ⊢
      exact ⟨h.1, relAt_take n h.2⟩
theorem relEls_get {w : World} {I : Nat → Prop} {sz b : Nat} : ∀ {es : List (List PV)} {o i : Nat} {c : List PV}, relEls w I sz b es o → es[i]? = some c → c.length = sz ∧ relAt w I b c (o + i * sz)
  | [], o, i, c, h, hi => by simp at hi
  | d :: es, o, i, c, h, hi => by
    simp only [relEls] at h
    cases i with
    | zero => simp at hi; subst hi; simpa using ⟨h.1, h.2.1⟩
    | succ i =>
      have := relEls_get h.2.2 (by simpa using hi : es[i]? = some c)
      rw [show o + (i + 1) * sz = o + sz + i * sz by rw [Nat.add_mul]; omega]
      exact this
theorem relEls_drop {w : World} {I : Nat → Prop} {sz b : Nat} : ∀ {es : List (List PV)} {o : Nat} (n : Nat), relEls w I sz b es o → relEls w I sz b (es.drop n) (o + n * sz)
  | [], o, n, h => by simp [relEls]
  | q :: ps, o, n, h => by
    cases n with
    | zero => simpa using h
    | succ n =>
      simp only [relEls] at h
      have := relEls_drop n h.2.2
      rw [show o + (n + 1) * sz = o + sz + n * sz by rw [Nat.add_mul]; omega]
      simpa using this
theorem relEls_take {w : World} {I : Nat → Prop} {sz b : Nat} : ∀ {es : List (List PV)} {o : Nat} (n : Nat), relEls w I sz b es o → relEls w I sz b (es.take n) o
  | [], o, n, h => by simp [relEls]
  | q :: ps, o, n, h => by
    cases n with
    | zero => simp [relEls]
    | succ n =>
      simp only [relEls, List.take_succ_cons] at h ⊢
      exact ⟨h.1, h.2.1, relEls_take n h.2.2⟩
theorem rel_oneCell {w : World} {I : Nat → Prop} {p : PV} {v : Value} (h : rel w I p v) (hs : p.scalar = true) : v.oneCell' = true := by
  cases p <;> simp [PV.scalar] at hs <;> simp only [rel] at h
  case sl => obtain ⟨A, cap, rfl, _⟩ := h; rfl
  case ifc => obtain ⟨u, rfl, _⟩ := h; rfl
  all_goals (subst h; rfl)

/-! ### 2. Abstract values of a frame, own objects -/
inductive AV where
  | pv (p : PV)
  | nils
  | ptr (id off : Nat)
  | eptr (id sz i j : Nat)
  | iptr (cs : List PV)
  | osl (id n : Nat)
  | osb (id sz lo n : Nat)
  | agg (cs : List AV)
  | tup (vs : List AV)
  | fn (f : FuncId) (caps : List AV)
  | mp (id : Nat)
  | undef
  deriving Inhabited
def AV.cell : AV → Bool
  | .agg _ | .tup _ | .undef => false
  | .pv p => p.scalar
  | _ => true
mutual
def arel (w : World) (I : Nat → Prop) (ι : Nat → Nat × Nat) : AV → Value → Prop
  | .pv p, v => rel w I p v
  | .nils, v => v = .slice none 0 0
  | .ptr id off, v => v = .pointer (some ⟨(ι id).1, off, none⟩)
  | .eptr id sz i j, v => v = .pointer (some ⟨(ι id).1, i * sz + j, none⟩)
  | .iptr cs, v => ∃ b o, v = .pointer (some ⟨b, o, none⟩) ∧ I b ∧ relAt w I b cs o
  | .osl id n, v => (v = .slice none 0 0 ∧ n = 0 ∧ (ι id).2 = 0) ∨ (v = .slice (some ⟨(ι id).1, 0, none⟩) n ((ι id).2 - 1) ∧ (ι id).2 ≠ 0 ∧ n ≤ (ι id).2 - 1)
  | .osb id sz lo n, v => ∃ A cap, v = .slice A n cap ∧ n ≤ cap ∧ (n = 0 ∨ A = some ⟨(ι id).1, lo * sz, none⟩)
  | .agg cs, v => ∃ vs, v = .agg vs.toArray ∧ (∀ c ∈ cs, c.cell = true) ∧ arelL w I ι cs vs
  | .tup cs, v => ∃ vs, v = .tuple vs.toArray ∧ arelL w I ι cs vs
  | .fn f caps, v => ∃ vs, v = .func (.func f) #[] vs.toArray ∧ arelL w I ι caps vs
  | .mp id, v => v = .map (some (ι id).1)
  | .undef, _ => True
def arelL (w : World) (I : Nat → Prop) (ι : Nat → Nat × Nat) : List AV → List Value → Prop
  | [], vs => vs = []
  | p :: ps, vs => ∃ u us, vs = u :: us ∧ arel w I ι p u ∧ arelL w I ι ps us
end
mutual
def AV.lt (n : Nat) : AV → Prop
  | .ptr id _ | .eptr id _ _ _ | .osl id _ | .osb id _ _ _ | .mp id => id < n
  | .agg cs | .tup cs | .fn _ cs => AV.ltL n cs
  | _ => True
def AV.ltL (n : Nat) : List AV → Prop
  | [] => True
  | c :: cs => c.lt n ∧ AV.ltL n cs
end
theorem AV.ltL_iff {n : Nat} : ∀ {cs : List AV}, AV.ltL n cs ↔ ∀ c ∈ cs, c.lt n
  | [] => by simp [AV.ltL]
  | c :: cs => by simp [AV.ltL, AV.ltL_iff (cs := cs)]
structure Ext (I I' : Nat → Prop) (ι ι' : Nat → Nat × Nat) (n : Nat) (w w' : World) : Prop where
  hi : ∀ b, I b → I' b
  hk : ∀ b, I b → w'.heap[b]? = w.heap[b]?
  hj : ∀ id, id < n → ι' id = ι id
theorem Ext.refl (I : Nat → Prop) (ι : Nat → Nat × Nat) (n : Nat) (w : World) : Ext I I ι ι n w w := ⟨fun _ h => h, fun _ _ => rfl, fun _ _ => rfl⟩
theorem Ext.trans {I I' I'' : Nat → Prop} {ι ι' ι'' : Nat → Nat × Nat} {n n' : Nat} {w w' w'' : World} (h : Ext I I' ι ι' n w w') (k : Ext I' I'' ι' ι'' n' w' w'') (hn : n ≤ n') : Ext I I'' ι ι'' n w w'' :=
  ⟨fun b x => k.hi b (h.hi b x), fun b x => (k.hk b (h.hi b x)).trans (h.hk b x), fun id x => (k.hj id (by omega)).trans (h.hj id x)⟩
mutual
theorem arel_ext {I I' : Nat → Prop} {ι ι' : Nat → Nat × Nat} {n : Nat} {w w' : World} (hE : Ext I I' ι ι' n w w') : ∀ (x : AV) (v : Value), x.lt n → arel w I ι x v → arel w' I' ι' x v
  | .pv p, v, _, h => by simp only [arel] at h ⊢; exact rel_keep hE.hk hE.hi p v h
  | .nils, v, _, h => by simpa [arel] using h
  | .ptr id off, v, hl, h => by simp only [arel, AV.lt] at h hl ⊢; rw [hE.hj id hl]; exact h
  | .eptr id sz i j, v, hl, h => by simp only [arel, AV.lt] at h hl ⊢; rw [hE.hj id hl]; exact h
  | .iptr cs, v, _, h => by
    simp only [arel] at h ⊢
    obtain ⟨b, o, h1, h2, h3⟩ := h
    exact ⟨b, o, h1, hE.hi b h2, relAt_keep hE.hk hE.hi b h2 cs o h3⟩
  | .osl id n', v, hl, h => by simp only [arel, AV.lt] at h hl ⊢; rw [hE.hj id hl]; exact h
  | .osb id sz lo n', v, hl, h => by simp only [arel, AV.lt] at h hl ⊢; rw [hE.hj id hl]; exact h
  | .agg cs, v, hl, h => by
    simp only [arel, AV.lt] at h hl ⊢
    obtain ⟨vs, h1, h0, h2⟩ := h
    exact ⟨vs, h1, h0, arelL_ext hE cs vs hl h2⟩
  | .tup cs, v, hl, h => by
    simp only [arel, AV.lt] at h hl ⊢
    obtain ⟨vs, h1, h2⟩ := h
    exact ⟨vs, h1, arelL_ext hE cs vs hl h2⟩
  | .fn f cs, v, hl, h => by
    simp only [arel, AV.lt] at h hl ⊢
    obtain ⟨vs, h1, h2⟩ := h
    exact ⟨vs, h1, arelL_ext hE cs vs hl h2⟩
  | .mp id, v, hl, h => by simp only [arel, AV.lt] at h hl ⊢; rw [hE.hj id hl]; exact h
  | .undef, v, _, h => by simp [arel]
theorem arelL_ext {I I' : Nat → Prop} {ι ι' : Nat → Nat × Nat} {n : Nat} {w w' : World} (hE : Ext I I' ι ι' n w w') : ∀ (xs : List AV) (vs : List Value), AV.ltL n xs → arelL w I ι xs vs → arelL w' I' ι' xs vs
  | [], vs, _, h => by simpa [arelL] using h
  | x :: xs, vs, hl, h => by
    simp only [arelL, AV.ltL] at h hl ⊢
    obtain ⟨u, us, h1, h2, h3⟩ := h
    exact ⟨u, us, h1, arel_ext hE x u hl.1 h2, arelL_ext hE xs us hl.2 h3⟩
end
mutual
theorem AV.lt_mono {n m : Nat} (h : n ≤ m) : ∀ (x : AV), x.lt n → x.lt m
  | .pv p, _ => by simp [AV.lt]
  | .nils, _ => by simp [AV.lt]
  | .ptr id off, hl => by simp only [AV.lt] at hl ⊢; omega
  | .eptr id sz i j, hl => by simp only [AV.lt] at hl ⊢; omega
  | .iptr cs, _ => by simp [AV.lt]
  | .osl id n', hl => by simp only [AV.lt] at hl ⊢; omega
  | .osb id sz lo n', hl => by simp only [AV.lt] at hl ⊢; omega
  | .agg cs, hl => by simp only [AV.lt] at hl ⊢; exact AV.ltL_mono h cs hl
  | .tup cs, hl => by simp only [AV.lt] at hl ⊢; exact AV.ltL_mono h cs hl
  | .fn f cs, hl => by simp only [AV.lt] at hl ⊢; exact AV.ltL_mono h cs hl
  | .mp id, hl => by simp only [AV.lt] at hl ⊢; omega
  | .undef, _ => by simp [AV.lt]
theorem AV.ltL_mono {n m : Nat} (h : n ≤ m) : ∀ (xs : List AV), AV.ltL n xs → AV.ltL m xs
  | [], _ => by simp [AV.ltL]
  | x :: xs, hl => by simp only [AV.ltL] at hl ⊢; exact ⟨AV.lt_mono h x hl.1, AV.ltL_mono h xs hl.2⟩
end
section
variable {w : World} {I : Nat → Prop} {ι : Nat → Nat × Nat}
theorem arelL_length : ∀ {ps : List AV} {vs : List Value}, arelL w I ι ps vs → vs.length = ps.length
  | [], vs, h => by simp only [arelL] at h; subst h; rfl
  | p :: ps, vs, h => by
    simp only [arelL] at h
    obtain ⟨u, us, rfl, _, h3⟩ := h
    simp [arelL_length h3]
theorem arelL_get : ∀ {ps : List AV} {vs : List Value} {i : Nat} {p : AV}, arelL w I ι ps vs → ps[i]? = some p → ∃ u, vs[i]? = some u ∧ arel w I ι p u
  | [], vs, i, p, h, hi => by simp at hi
  | q :: ps, vs, i, p, h, hi => by
    simp only [arelL] at h
    obtain ⟨u, us, rfl, h1, h3⟩ := h
    cases i with
    | zero => simp at hi; subst hi; exact ⟨u, by simp, h1⟩
    | succ i => simpa using arelL_get h3 (by simpa using hi)
theorem arelL_drop : ∀ {ps : List AV} {vs : List Value} (n : Nat), arelL w I ι ps vs → arelL w I ι (ps.drop n) (vs.drop n)
  | [], vs, n, h => by simp only [arelL] at h; subst h; simp [arelL]
  | q :: ps, vs, n, h => by
    cases n with
    | zero => simpa using h
    | succ n =>
      simp only [arelL] at h
      obtain ⟨u, us, rfl, h1, h3⟩ := h
      simpa using arelL_drop n h3
theorem arelL_take : ∀ {ps : List AV} {vs : List Value} (n : Nat), arelL w I ι ps vs → arelL w I ι (ps.take n) (vs.take n)
  | [], vs, n, h => by simp only [arelL] at h; subst h; simp [arelL]
  | q :: ps, vs, n, h => by
    cases n with
    | zero => simp [arelL]
    | succ n =>
      simp only [arelL] at h
      obtain ⟨u, us, rfl, h1, h3⟩ := h
      simp only [List.take_succ_cons, arelL]
      exact ⟨u, _, rfl, h1, arelL_take n h3⟩
theorem arelL_append : ∀ {ps qs : List AV} {vs us : List Value}, arelL w I ι ps vs → arelL w I ι qs us → arelL w I ι (ps ++ qs) (vs ++ us)
  | [], qs, vs, us, h, k => by simp only [arelL] at h; subst h; simpa using k
  | p :: ps, qs, vs, us, h, k => by
    simp only [arelL] at h
    obtain ⟨u, vs, rfl, h1, h3⟩ := h
    simp only [List.cons_append, arelL]
    exact ⟨u, _, rfl, h1, arelL_append h3 k⟩
theorem arelL_set : ∀ {ps : List AV} {vs : List Value} {i : Nat} {x : AV} {u : Value}, arelL w I ι ps vs → arel w I ι x u → arelL w I ι (ps.set i x) (vs.set i u)
  | [], vs, i, x, u, h, hx => by simp only [arelL] at h; subst h; simp [arelL]
  | p :: ps, vs, i, x, u, h, hx => by
    simp only [arelL] at h
    obtain ⟨y, us, rfl, h1, h3⟩ := h
    cases i with
    | zero => simp only [List.set_cons_zero, arelL]; exact ⟨u, us, rfl, hx, h3⟩
    | succ i => simp only [List.set_cons_succ, arelL]; exact ⟨y, _, rfl, h1, arelL_set h3 hx⟩
theorem arelL_map_pv : ∀ {ps : List PV} {vs : List Value}, relL w I ps vs ↔ arelL w I ι (ps.map .pv) vs
  | [], vs => by simp [relL, arelL]
  | p :: ps, vs => by simp [relL, arelL, arel, arelL_map_pv (ps := ps)]
theorem arel_oneCell {x : AV} {v : Value} (h : arel w I ι x v) (hc : x.cell = true) : v.oneCell' = true := by
  cases x <;> simp [AV.cell] at hc <;> simp only [arel] at h
  case pv p => exact rel_oneCell h hc
  case iptr => obtain ⟨b, o, rfl, _⟩ := h; rfl
  case fn => obtain ⟨vs, rfl, _⟩ := h; rfl
  case osl => rcases h with ⟨rfl, _⟩ | ⟨rfl, _⟩ <;> rfl
  case osb => obtain ⟨A, cap, rfl, _⟩ := h; rfl
  all_goals (subst h; rfl)
end
end Go.Proofs.YtahamnipffckhaaDoor
