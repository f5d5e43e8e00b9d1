import Derived.Test.YtahamnipffckhaaDoorAm4
set_option linter.unusedVariables false
set_option linter.unusedSimpArgs false
namespace Go.Proofs.YtahamnipffckhaaDoor
open Go Go.RowKit

/-! ### 11. Addresses -/
/-- A field's place, if it has cells at all. -/
def faT (P : Program) (s : TypeId) (f : Nat) : Option Nat := match P.underlying s with
  | some (.struct fs) => match fs[f]? with
    | some fd => match szT P fd.type with
      | some (_ + 1) => some fd.offset
      | _ => none
    | none => none
  | _ => none
def faR (P : Program) (s : TypeId) (f : Nat) (x : AV) : Option AV := match faT P s f with
  | some off => match x with
    | .ptr id o => some (.ptr id (o + off))
    | .eptr id sz i j => some (.eptr id sz i (j + off))
    | .iptr cs => some (.iptr (cs.drop off))
    | _ => none
  | none => none
section
variable {P : Program} {G : Ghost} {ι : Nat → Nat × Nat} {I : Nat → Prop} {h : AHeap} {w : World}
theorem faR_sound {s : TypeId} {f : Nat} {x y : AV} {v : Value} (hx : arel w I ι x v) (hl : x.lt h.length) (hf : faR P s f x = some y) :
    ∃ u, (Instr.fieldAt s v f).run P w = .ok u w ∧ arel w I ι y u ∧ y.lt h.length := by
  unfold faR at hf
  split at hf
  · rename_i off ho
    unfold faT at ho
    split at ho
    · rename_i fs hu
      split at ho
      · rename_i fd hfd
        split at ho
        · rename_i m hm
          cases ho
          have key : ∀ b o : Nat, v = .pointer (some ⟨b, o, none⟩) → (Instr.fieldAt s v f).run P w = .ok (.pointer (some ⟨b, o + fd.offset, none⟩)) w := by
            intro b o hv
            subst hv
            simp [Instr.fieldAt, run_underlying hu, hfd, Instr.sureAddr, fieldPlace, run_sizeOf' hm, addr_add]
          cases x <;> simp only [reduceCtorEq] at hf
          case ptr id o => cases hf; simp only [arel] at hx; exact ⟨_, key _ _ hx, by simp [arel], hl⟩
          case eptr id sz i j => cases hf; simp only [arel] at hx; exact ⟨_, key _ _ hx, by simp [arel, Nat.add_assoc], hl⟩
          case iptr cs =>
            cases hf
            simp only [arel] at hx
            obtain ⟨b, o, e, hb, hr⟩ := hx
            exact ⟨_, key _ _ e, by simp only [arel]; exact ⟨b, _, rfl, hb, relAt_drop _ hr⟩, trivial⟩
        · cases ho
      · cases ho
    · cases ho
  · cases hf
/-- An array's length, its element's cells. -/
def arS (P : Program) (t : TypeId) : Option (Nat × Nat) := match P.underlying t with
  | some (.array n e) => match szT P e with
    | some sz => some (n, sz)
    | none => none
  | _ => none
/-- A slice's element type and its cells. -/
def slS (P : Program) (t : TypeId) : Option (TypeId × Nat) := match P.underlying t with
  | some (.slice e) => match szT P e with
    | some sz => some (e, sz)
    | none => none
  | _ => none
def iaR (P : Program) (t : TypeId) (x i : AV) : Option AV := match i with
  | .pv (.int _ n) => match slS P t, x with
    | some (_, sz), .pv (.sl es) => if 0 ≤ n ∧ n < (es.length : Int) then if (es.getD n.toNat []).length = sz then some (.iptr (es.getD n.toNat [])) else none else none
    | some (_, sz), .osl id m => if 0 ≤ n ∧ n < (m : Int) then some (.eptr id sz n.toNat 0) else none
    | some (_, sz), .osb id sz' lo m => if 0 ≤ n ∧ n < (m : Int) ∧ sz' = sz then some (.eptr id sz (lo + n.toNat) 0) else none
    | some _, _ => none
    | none, .iptr cs => match arS P t with
      | some (len, sz) => if 0 ≤ n ∧ n < (len : Int) then some (.iptr (cs.drop (n.toNat * sz))) else none
      | none => none
    | none, .ptr id o => match arS P t with
      | some (len, sz) => if 0 ≤ n ∧ n < (len : Int) then some (.ptr id (o + n.toNat * sz)) else none
      | none => none
    | none, _ => none
  | _ => none
theorem slS_spec {t e : TypeId} {sz : Nat} (hs : slS P t = some (e, sz)) : P.underlying t = some (.slice e) ∧ szT P e = some sz := by
  unfold slS at hs
  split at hs
  · rename_i e' hu
    split at hs <;> cases hs
    rename_i hz
    exact ⟨hu, hz⟩
  · cases hs
theorem arS_spec {t : TypeId} {n sz : Nat} (hs : arS P t = some (n, sz)) : ∃ e, P.underlying t = some (.array n e) ∧ szT P e = some sz := by
  unfold arS at hs
  split at hs
  · rename_i e' hu
    split at hs <;> cases hs
    rename_i hz
    exact ⟨_, hu, hz⟩
  · cases hs
theorem iaR_sound {t : TypeId} {x i y : AV} {v j : Value} (hx : arel w I ι x v) (hi : arel w I ι i j) (hl : x.lt h.length) (hf : iaR P t x i = some y) :
    ∃ u, (Instr.indexAt t v j).run P w = .ok u w ∧ arel w I ι y u ∧ y.lt h.length := by
  unfold iaR at hf
  split at hf
  · rename_i k n
    simp only [arel, rel] at hi
    subst hi
    split at hf
    · rename_i e sz es hs
      obtain ⟨hu, hz⟩ := slS_spec hs
      split at hf
      · rename_i hb
        split at hf <;> cases hf
        rename_i hlen
        simp only [arel, rel] at hx
        obtain ⟨A, cap, rfl, h1, h2, h3⟩ := hx
        have hlt : n.toNat < es.length := by omega
        have hne : es ≠ [] := fun e => by subst e; simp at hlt
        obtain ⟨b, o, sz', rfl, hIb, hr⟩ := h3.resolve_left hne
        have hget : es[n.toNat]? = some (es.getD n.toNat []) := by simp [List.getD_eq_getElem?_getD, List.getElem?_eq_getElem hlt]
        obtain ⟨g1, g2⟩ := relEls_get hr hget
        have hsz : sz' = sz := g1.symm.trans hlen
        subst hsz
        refine ⟨.pointer (some ⟨b, o + n.toNat * sz', none⟩), ?_, ?_, trivial⟩
        · simp [Instr.indexAt, asIntOf, run_underlying hu, hb.1, hb.2, run_sizeOf' hz, addr_add]
        · simp only [arel]; exact ⟨b, _, rfl, hIb, g2⟩
      · cases hf
    · rename_i e sz id m hs
      obtain ⟨hu, hz⟩ := slS_spec hs
      split at hf <;> cases hf
      rename_i hb
      simp only [arel] at hx
      rcases hx with ⟨rfl, hm, _⟩ | ⟨rfl, _⟩
      · omega
      · refine ⟨.pointer (some ⟨(ι id).1, n.toNat * sz, none⟩), ?_, by simp [arel], hl⟩
        simp [Instr.indexAt, asIntOf, run_underlying hu, hb.1, hb.2, run_sizeOf' hz, addr_add]
    · rename_i e sz id sz' lo m hs
      obtain ⟨hu, hz⟩ := slS_spec hs
      split at hf <;> cases hf
      rename_i hb
      obtain ⟨b1, b2, rfl⟩ := hb
      simp only [arel] at hx
      obtain ⟨A, cap, rfl, hc, hA⟩ := hx
      rcases hA with hA | hA
      · omega
      · subst hA
        refine ⟨.pointer (some ⟨(ι id).1, lo * sz' + n.toNat * sz', none⟩), ?_, by simp [arel, Nat.add_mul], hl⟩
        simp [Instr.indexAt, asIntOf, run_underlying hu, b1, b2, run_sizeOf' hz, addr_add]
    · cases hf
    · rename_i cs hs
      split at hf
      · rename_i len sz ha
        obtain ⟨e, hu, hz⟩ := arS_spec ha
        split at hf <;> cases hf
        rename_i hb
        simp only [arel] at hx
        obtain ⟨b, o, rfl, hIb, hr⟩ := hx
        refine ⟨.pointer (some ⟨b, o + n.toNat * sz, none⟩), ?_, ?_, trivial⟩
        · simp [Instr.indexAt, asIntOf, run_underlying hu, hb.1, hb.2, run_sizeOf' hz, addr_add, Instr.sureAddr]
        · simp only [arel]; exact ⟨b, _, rfl, hIb, relAt_drop _ hr⟩
      · cases hf
    · rename_i id o hs
      split at hf
      · rename_i len sz ha
        obtain ⟨e, hu, hz⟩ := arS_spec ha
        split at hf <;> cases hf
        rename_i hb
        simp only [arel] at hx
        subst hx
        refine ⟨.pointer (some ⟨(ι id).1, o + n.toNat * sz, none⟩), ?_, by simp [arel], hl⟩
        simp [Instr.indexAt, asIntOf, run_underlying hu, hb.1, hb.2, run_sizeOf' hz, addr_add, Instr.sureAddr]
      · cases hf
    · cases hf
  · cases hf

/-! ### 12. Slices, strings, lengths -/
def ixR (P : Program) (t : TypeId) (x i : AV) : Option AV := match x, i with
  | .pv (.str s), .pv (.int _ n) => match P.underlying t with
    | some .string => if 0 ≤ n then match s[n.toNat]? with
      | some b => some (.pv (.int .u8 b.toNat))
      | none => none
      else none
    | _ => none
  | _, _ => none
theorem ixR_sound {t : TypeId} {x i y : AV} {v j : Value} (hx : arel w I ι x v) (hi : arel w I ι i j) (hf : ixR P t x i = some y) :
    ∃ u, (Instr.index t v j).run P w = .ok u w ∧ arel w I ι y u ∧ y.lt h.length := by
  unfold ixR at hf
  split at hf
  · rename_i s k n
    simp only [arel, rel] at hx hi
    subst hx; subst hi
    split at hf
    · rename_i hu
      split at hf
      · rename_i h0
        split at hf <;> cases hf
        rename_i b hb
        exact ⟨.int .u8 b.toNat, by simp [Instr.index, asIntOf, run_underlying hu, h0, hb], by simp [arel, rel], trivial⟩
      · cases hf
    · cases hf
  · cases hf
def bnd (d : Nat) : Option AV → Option Int
  | none => some d
  | some (.pv (.int _ n)) => some n
  | _ => none
def scR (P : Program) (t : TypeId) (x : AV) (lo hi : Option AV) : Option AV := match x with
  | .pv (.str s) => match P.underlying t, bnd 0 lo, bnd s.size hi with
    | some .string, some l, some r => if 0 ≤ l ∧ l ≤ r ∧ r ≤ (s.size : Int) then some (.pv (.str (s.extract l.toNat r.toNat))) else none
    | _, _, _ => none
  | .pv (.sl es) => match slS P t, bnd 0 lo, bnd es.length hi with
    | some _, some l, some r => if 0 ≤ l ∧ l ≤ r ∧ r ≤ (es.length : Int) then (match slS P t with
      | some (_, sz) => if (es.all fun c => c.length == sz) = true then some (.pv (.sl ((es.take r.toNat).drop l.toNat))) else none
      | none => none) else none
    | _, _, _ => none
  | .osl id n => match slS P t, bnd 0 lo, bnd n hi with
    | some (_, sz), some l, some r => if 0 ≤ l ∧ l ≤ r ∧ r ≤ (n : Int) then (if l = 0 then some (.osl id r.toNat) else some (.osb id sz l.toNat (r.toNat - l.toNat))) else none
    | _, _, _ => none
  | _ => none
def obnd (w : World) (I : Nat → Prop) (ι : Nat → Nat × Nat) : Option AV → Option Value → Prop
  | none, none => True
  | some x, some v => arel w I ι x v
  | _, _ => False
theorem obnd_run {d c : Nat} {lo : Option AV} {lo' : Option Value} {n : Int} {code : BoundsCode} (ho : obnd w I ι lo lo') (hb : bnd d lo = some n) (h0 : 0 ≤ n) (h1 : n ≤ c) :
    (lo' = none ∧ n = d) ∨ ∃ v, lo' = some v ∧ (Instr.sliceBound v c code).run P w = .ok n.toNat w := by
  cases lo with
  | none => cases lo' with
    | none => simp [bnd] at hb; exact .inl ⟨rfl, hb.symm⟩
    | some v => simp [obnd] at ho
  | some x => cases lo' with
    | none => simp [obnd] at ho
    | some v =>
      simp only [obnd] at ho
      unfold bnd at hb
      split at hb <;> cases hb
      · rename_i hh; cases hh
      · rename_i k hh
        cases hh
        simp only [arel, rel] at ho
        subst ho
        exact .inr ⟨_, rfl, by simp [Instr.sliceBound, asIntOf, h0, h1]⟩
theorem relEls_sub {sz b o l r : Nat} {es : List (List PV)} (hr : relEls w I sz b es o) : relEls w I sz b ((es.take r).drop l) (o + l * sz) := relEls_drop l (relEls_take r hr)
theorem scR_sound {t : TypeId} {x y : AV} {lo hi : Option AV} {lo' hi' : Option Value} {v : Value} (hx : arel w I ι x v) (hlt : x.lt h.length) (hlo : obnd w I ι lo lo') (hhi : obnd w I ι hi hi') (hf : scR P t x lo hi = some y) :
    ∃ u, (Instr.sliceAt t v lo' hi' none).run P w = .ok u w ∧ arel w I ι y u ∧ y.lt h.length := by
  unfold scR at hf
  split at hf
  · rename_i s
    simp only [arel, rel] at hx
    subst hx
    split at hf
    · rename_i l r hu hl hr
      split at hf <;> cases hf
      rename_i hb
      refine ⟨.string (s.extract l.toNat r.toNat), ?_, by simp [arel, rel], trivial⟩
      rcases obnd_run (P := P) (c := s.size) (code := .sliceAlen) hhi hr (by omega) (by omega) with ⟨e1, e2⟩ | ⟨v2, e1, e2⟩ <;>
        rcases obnd_run (P := P) (c := r.toNat) (code := .sliceB) hlo hl (by omega) (by omega) with ⟨e3, e4⟩ | ⟨v1, e3, e4⟩
      · subst e1; subst e2; subst e3; subst e4
        simp [Instr.sliceAt, run_underlying hu, Instr.slice, Instr.sliceBounds]
      · subst e1; subst e2; subst e3
        simp at e4
        simp [Instr.sliceAt, run_underlying hu, Instr.slice, Instr.sliceBounds, e4]
      · subst e1; subst e3; subst e4
        simp [Instr.sliceAt, run_underlying hu, Instr.slice, Instr.sliceBounds, e2]
      · subst e1; subst e3
        simp [Instr.sliceAt, run_underlying hu, Instr.slice, Instr.sliceBounds, e2, e4]
    · cases hf
  · rename_i es
    simp only [arel, rel] at hx
    obtain ⟨A, cap, rfl, h1, h2, h3⟩ := hx
    split at hf
    · rename_i st l r hs hl hr
      obtain ⟨e, sz⟩ := st
      obtain ⟨hu, hz⟩ := slS_spec hs
      split at hf
      · rename_i hb
        simp only [hs] at hf
        split at hf <;> cases hf
        rename_i hall
        have hlen : ((es.take r.toNat).drop l.toNat).length = r.toNat - l.toNat := by simp; omega
        refine ⟨.slice (if cap = l.toNat then A else A.map (·.add (l.toNat * sz))) (r.toNat - l.toNat) (cap - l.toNat), ?_, ?_, trivial⟩
        · rcases obnd_run (P := P) (c := cap) (code := .sliceAcap) hhi hr (by omega) (by omega) with ⟨e1, e2⟩ | ⟨v2, e1, e2⟩ <;>
            rcases obnd_run (P := P) (c := r.toNat) (code := .sliceB) hlo hl (by omega) (by omega) with ⟨e3, e4⟩ | ⟨v1, e3, e4⟩
          · subst e1; subst e2; subst e3; subst e4
            simp [Instr.sliceAt, run_underlying hu, Instr.slice, Instr.sliceBounds, run_sizeOf' hz]
          · subst e1; subst e2; subst e3
            simp at e4
            simp [Instr.sliceAt, run_underlying hu, Instr.slice, Instr.sliceBounds, run_sizeOf' hz, e4]
          · subst e1; subst e3; subst e4
            simp [Instr.sliceAt, run_underlying hu, Instr.slice, Instr.sliceBounds, run_sizeOf' hz, e2]
          · subst e1; subst e3
            simp [Instr.sliceAt, run_underlying hu, Instr.slice, Instr.sliceBounds, run_sizeOf' hz, e2, e4]
        · simp only [arel, rel]
          refine ⟨_, _, by rw [hlen], by rw [hlen]; omega, by rw [hlen]; omega, ?_⟩
          by_cases hcl : cap = l.toNat
          · exact .inl (List.eq_nil_of_length_eq_zero (by rw [hlen]; omega))
          · rcases h3 with h3 | ⟨b, o, sz', rfl, hIb, hre⟩
            · subst h3; exact .inl (by simp)
            · by_cases hne : es = []
              · subst hne; exact .inl (by simp)
              · right
                have hsz : sz' = sz := by
                  cases es with
                  | nil => exact absurd rfl hne
                  | cons c cs =>
                    simp only [relEls] at hre
                    simp at hall
                    exact hre.1.symm.trans hall.1
                subst hsz
                refine ⟨b, o + l.toNat * sz', sz', ?_, hIb, relEls_sub hre⟩
                rw [if_neg hcl]
                simp [addr_add]
      · cases hf
    · cases hf
  · rename_i id n
    simp only [arel] at hx
    obtain ⟨A, cap, rfl, hnc, hA⟩ : ∃ A cap, v = .slice A n cap ∧ n ≤ cap ∧ ((A = none ∧ n = 0 ∧ cap = 0 ∧ (ι id).2 = 0) ∨ (A = some ⟨(ι id).1, 0, none⟩ ∧ cap = (ι id).2 - 1 ∧ (ι id).2 ≠ 0)) := by
      rcases hx with ⟨rfl, rfl, h0⟩ | ⟨rfl, h0, h1⟩
      · exact ⟨_, _, rfl, Nat.le_refl _, .inl ⟨rfl, rfl, rfl, h0⟩⟩
      · exact ⟨_, _, rfl, h1, .inr ⟨rfl, rfl, h0⟩⟩
    split at hf
    · rename_i e sz l r hs hl hr
      obtain ⟨hu, hz⟩ := slS_spec hs
      split at hf
      · rename_i hb
        have hrun : (Instr.sliceAt t (.slice A n cap) lo' hi' none).run P w = .ok (.slice (if cap = l.toNat then A else A.map (·.add (l.toNat * sz))) (r.toNat - l.toNat) (cap - l.toNat)) w := by
          rcases obnd_run (P := P) (c := cap) (code := .sliceAcap) hhi hr (by omega) (by omega) with ⟨e1, e2⟩ | ⟨v2, e1, e2⟩ <;>
            rcases obnd_run (P := P) (c := r.toNat) (code := .sliceB) hlo hl (by omega) (by omega) with ⟨e3, e4⟩ | ⟨v1, e3, e4⟩
          · subst e1; subst e2; subst e3; subst e4
            simp [Instr.sliceAt, run_underlying hu, Instr.slice, Instr.sliceBounds, run_sizeOf' hz]
          · subst e1; subst e2; subst e3
            simp at e4
            simp [Instr.sliceAt, run_underlying hu, Instr.slice, Instr.sliceBounds, run_sizeOf' hz, e4]
          · subst e1; subst e3; subst e4
            simp [Instr.sliceAt, run_underlying hu, Instr.slice, Instr.sliceBounds, run_sizeOf' hz, e2]
          · subst e1; subst e3
            simp [Instr.sliceAt, run_underlying hu, Instr.slice, Instr.sliceBounds, run_sizeOf' hz, e2, e4]
        split at hf <;> cases hf
        · rename_i hl0
          subst hl0
          refine ⟨_, hrun, ?_, hlt⟩
          simp only [arel]
          rcases hA with ⟨rfl, rfl, rfl, h0⟩ | ⟨rfl, rfl, h0⟩
          · left; refine ⟨?_, by omega, h0⟩
            have : r.toNat = 0 := by omega
            simp [this]
          · right
            refine ⟨?_, h0, by omega⟩
            by_cases hc : (ι id).2 - 1 = 0
            · simp [hc]
            · simp only [Int.toNat_zero]
              rw [if_neg hc]
              simp [addr_add]
        · rename_i hl0
          refine ⟨_, hrun, ?_, hlt⟩
          simp only [arel]
          refine ⟨_, _, rfl, by omega, ?_⟩
          by_cases hz0 : r.toNat - l.toNat = 0
          · exact .inl hz0
          · right
            rcases hA with ⟨rfl, rfl, rfl, h0⟩ | ⟨rfl, rfl, h0⟩
            · omega
            · rw [if_neg (by omega)]
              simp [addr_add]
      · cases hf
    · cases hf
  · cases hf
def lnT (P : Program) (t : TypeId) : Option Bool := match P.underlying t with
  | some .string => some true
  | some (.slice _) => some false
  | _ => none
def lnR (P : Program) (t : TypeId) (x : AV) : Option AV := match lnT P t, x with
  | some true, .pv (.str s) => some (.pv (.int .i64 s.size))
  | some false, .pv (.sl es) => some (.pv (.int .i64 es.length))
  | some false, .osl _ n => some (.pv (.int .i64 n))
  | some false, .nils => some (.pv (.int .i64 0))
  | some false, .osb _ _ _ n => some (.pv (.int .i64 n))
  | _, _ => none
theorem lnR_sound {t ty : TypeId} {x y : AV} {v : Value} (hx : arel w I ι x v) (hf : lnR P t x = some y) :
    ∃ u, (Builtin.len_ #[t] ty #[v]).run P w = .ok u w ∧ arel w I ι y u ∧ y.lt h.length := by
  unfold lnR at hf
  split at hf <;> (try cases hf)
  · rename_i s ht
    unfold lnT at ht
    split at ht <;> cases ht
    rename_i hu
    simp only [arel, rel] at hx; subst hx
    exact ⟨.int .i64 s.size, by simp [Builtin.len_, run_underlying hu, goInt], by simp [arel, rel], trivial⟩
  · rename_i es ht
    unfold lnT at ht
    split at ht <;> cases ht
    rename_i e hu
    simp only [arel, rel] at hx
    obtain ⟨A, cap, rfl, _⟩ := hx
    exact ⟨.int .i64 es.length, by simp [Builtin.len_, run_underlying hu, goInt], by simp [arel, rel], trivial⟩
  · rename_i id n ht
    unfold lnT at ht
    split at ht <;> cases ht
    rename_i e hu
    simp only [arel] at hx
    rcases hx with ⟨rfl, rfl, _⟩ | ⟨rfl, _⟩ <;> exact ⟨_, by simp [Builtin.len_, run_underlying hu, goInt]; rfl, by simp [arel, rel], trivial⟩
  · rename_i ht
    unfold lnT at ht
    split at ht <;> cases ht
    rename_i e hu
    simp only [arel] at hx; subst hx
    exact ⟨_, by simp [Builtin.len_, run_underlying hu, goInt]; rfl, by simp [arel, rel], trivial⟩
  · rename_i id sz lo n ht
    unfold lnT at ht
    split at ht <;> cases ht
    rename_i e hu
    simp only [arel] at hx
    obtain ⟨A, cap, rfl, _⟩ := hx
    exact ⟨_, by simp [Builtin.len_, run_underlying hu, goInt]; rfl, by simp [arel, rel], trivial⟩
end
end Go.Proofs.YtahamnipffckhaaDoor
