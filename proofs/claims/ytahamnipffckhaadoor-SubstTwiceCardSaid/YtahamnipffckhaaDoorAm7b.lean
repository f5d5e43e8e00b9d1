import Derived.Test.YtahamnipffckhaaDoorAm7
import Derived.MapKept
set_option linter.unusedVariables false
set_option linter.unusedSimpArgs false
namespace Go.Proofs.YtahamnipffckhaaDoor
open Go Go.RowKit Go.MapKept

/-! ### 14b. Maps of the call's own -/
theorem Key.val_inj {a b : Key} (h : a.val = b.val) : a = b := by
  cases a <;> cases b <;> simp [Key.val] at h <;> simp_all
def siT (P : Program) (t : TypeId) : Bool := match P.underlying t with
  | some (.struct fs) => match fs.toList with
    | [f, g] => f.name != "_" && g.name != "_" && f.offset == 0 && g.offset == 1 && (match P.underlying f.type with
      | some .string => true
      | _ => false) && (match P.underlying g.type with
      | some (.int .i64) => true
      | _ => false) && !P.stoodInHeld t
    | _ => false
  | _ => false
def keyKind (P : Program) (t : TypeId) : Nat := match P.underlying t with
  | some .string => 1
  | some (.int .i64) => 2
  | some (.struct _) => if siT P t = true then 3 else 0
  | _ => 0
def zeroV (P : Program) (t : TypeId) : Option AV := (P.info? t).bind fun i => i.zero.bind fun z => match z with
  | .agg vs => (cstL vs.toList).map mkAgg
  | z => cst0 z
def mapK (P : Program) (t : TypeId) : Option (Nat × Option AV) := match P.underlying t with
  | some (.map k e) => some (keyKind P k, zeroV P e)
  | _ => none
def toKey : AV → Option Key
  | .pv (.str s) => some (.str s)
  | .pv (.int k n) => some (.int k n)
  | .pv (.agg [.str s, .int .i64 n]) => some (.si s n)
  | .agg [.pv (.str s), .pv (.int .i64 n)] => some (.si s n)
  | _ => none
section
variable {P : Program} {G : Ghost} {ι : Nat → Nat × Nat} {I : Nat → Prop} {h : AHeap} {w : World}
theorem toKey_rel {x : AV} {k : Key} {v : Value} (hx : arel w I ι x v) (hk : toKey x = some k) : v = k.val := by
  unfold toKey at hk
  split at hk <;> cases hk <;> simp only [arel, rel] at hx
  · exact hx
  · exact hx
  · obtain ⟨vs, rfl, _, hv⟩ := hx
    simp only [relL, rel] at hv
    obtain ⟨_, _, rfl, rfl, _, _, rfl, rfl, rfl⟩ := hv
    rfl
  · obtain ⟨vs, rfl, _, hv⟩ := hx
    simp only [arelL, arel, rel] at hv
    obtain ⟨_, _, rfl, rfl, _, _, rfl, rfl, rfl⟩ := hv
    rfl
theorem siT_spec {t : TypeId} (hs : siT P t = true) : ∃ f g, P.underlying t = some (.struct #[f, g]) ∧ f.name ≠ "_" ∧ g.name ≠ "_" ∧ f.offset = 0 ∧ g.offset = 1 ∧ P.underlying f.type = some .string ∧ P.underlying g.type = some (.int .i64) ∧ P.stoodInHeld t = false := by
  unfold siT at hs
  split at hs
  · rename_i fs hu
    split at hs
    · rename_i f g hl
      have hfs : fs = #[f, g] := by rw [← Array.toList_inj]; exact hl
      subst hfs
      simp only [Bool.and_eq_true, bne_iff_ne, beq_iff_eq, Bool.not_eq_true'] at hs
      obtain ⟨⟨⟨⟨⟨⟨h1, h2⟩, h3⟩, h4⟩, h5⟩, h6⟩, h7⟩ := hs
      refine ⟨f, g, hu, h1, h2, h3, h4, ?_, ?_, h7⟩
      · split at h5
        · assumption
        · cases h5
      · split at h6
        · assumption
        · cases h6
    · cases hs
  · cases hs
theorem keyKind_spec {t : TypeId} {k : Key} (hk : keyKind P t = k.kind) :
    (∃ s, k = .str s ∧ P.underlying t = some .string) ∨ (∃ n, k = .int .i64 n ∧ P.underlying t = some (.int .i64)) ∨ (∃ s n, k = .si s n ∧ siT P t = true) := by
  unfold keyKind at hk
  split at hk
  · rename_i hu
    cases k with
    | str s => exact .inl ⟨s, rfl, hu⟩
    | int j n => cases j <;> simp [Key.kind] at hk
    | si s n => simp [Key.kind] at hk
  · rename_i hu
    cases k with
    | str s => simp [Key.kind] at hk
    | int j n => cases j <;> simp [Key.kind] at hk; exact .inr (.inl ⟨n, rfl, hu⟩)
    | si s n => simp [Key.kind] at hk
  · split at hk
    · rename_i hs
      cases k with
      | str s => simp [Key.kind] at hk
      | int j n => cases j <;> simp [Key.kind] at hk
      | si s n => exact .inr (.inr ⟨s, n, rfl, hs⟩)
    · cases k with
      | int j n => cases j <;> simp [Key.kind] at hk
      | _ => simp [Key.kind] at hk
  · cases k with
    | int j n => cases j <;> simp [Key.kind] at hk
    | _ => simp [Key.kind] at hk
theorem run_part_str {t : TypeId} {cs : Array Value} {off : Nat} {v : Value} (hu : P.underlying t = some .string) (hv : cs[off]? = some v) : (part t cs off).run P w = .ok v w := by simp [part, isAgg, run_underlying hu, hv]
theorem run_part_int {t : TypeId} {k : IntKind} {cs : Array Value} {off : Nat} {v : Value} (hu : P.underlying t = some (.int k)) (hv : cs[off]? = some v) : (part t cs off).run P w = .ok v w := by simp [part, isAgg, run_underlying hu, hv]
theorem si_equal {t : TypeId} (hs : siT P t = true) (a b : ByteArray) (m n : Int) : (Op.equal t (.agg #[.string a, .int .i64 m]) (.agg #[.string b, .int .i64 n])).run P w = .ok (decide (a = b ∧ m = n)) w := by
  obtain ⟨f, g, hu, n1, n2, o1, o2, u1, u2, hst⟩ := siT_spec hs
  have hF : P.fieldsOf t = #[f, g] := by simp [Program.fieldsOf, hu]
  show (Op.equalIn (9999 + 1) t _ _).run P w = _
  rw [run_equalIn_struct w 9999 t _ _ (by rw [hF]; exact hu) hst, hF]
  show (Op.eqFields (9998 + 1) _ _ [f, g]).run P w = _
  simp only [Op.eqFields, n1, n2, ne_eq, not_false_eq_true, if_true, o1, o2, Sem.run_bind, run_part_str u1 (show (#[Value.string a, .int .i64 m] : Array Value)[0]? = some (.string a) from rfl), run_part_str u1 (show (#[Value.string b, .int .i64 n] : Array Value)[0]? = some (.string b) from rfl), Result.andThen_ok,
    run_equalIn_string w 9998 f.type a b u1]
  by_cases hab : a = b
  · subst hab
    simp only [beq_self_eq_true, Bool.not_true, Bool.false_eq_true, if_false, Sem.run_bind, run_part_int u2 (show (#[Value.string a, .int .i64 m] : Array Value)[1]? = some (.int .i64 m) from rfl), run_part_int u2 (show (#[Value.string a, .int .i64 n] : Array Value)[1]? = some (.int .i64 n) from rfl), Result.andThen_ok, run_equalIn_int w 9998 g.type .i64 .i64 m n u2]
    by_cases hmn : m = n
    · subst hmn; simp
    · simp [hmn]
  · have : (a.toList == b.toList) = false := by
      rw [Bool.eq_false_iff]
      intro e
      simp only [beq_iff_eq, ByteArray.toList_eq] at e
      refine hab ?_
      cases a; cases b
      simp only [Array.toList_inj] at e
      rw [e]
    simp [this, hab]
theorem si_check {t : TypeId} (hs : siT P t = true) (a : ByteArray) (m : Int) (e : Bool) : (Instr.checkKey e 10000 t (.agg #[.string a, .int .i64 m])).run P w = .ok () w := by
  obtain ⟨f, g, hu, n1, n2, o1, o2, u1, u2, hst⟩ := siT_spec hs
  show (Instr.checkKey e (9998 + 1 + 1) t _).run P w = _
  have c1 : (Instr.checkKey e (9998 + 1) f.type (.string a)).run P w = .ok () w := run_checkKey u1 (by trivial) e 9998
  have c2 : (Instr.checkKey e (9998 + 1) g.type (.int .i64 m)).run P w = .ok () w := run_checkKey u2 (by trivial) e 9998
  unfold Instr.checkKey
  simp only [Sem.run_bind, run_underlying hu, Result.andThen_ok]
  simp [n1, n2, o1, o2, run_part_str (w := w) u1 (show (#[Value.string a, .int .i64 m] : Array Value)[0]? = some (.string a) from rfl), run_part_int (w := w) u2 (show (#[Value.string a, .int .i64 m] : Array Value)[1]? = some (.int .i64 m) from rfl), c1, c2]
theorem key_check {t : TypeId} {k : Key} (hk : keyKind P t = k.kind) (e : Bool) : (Instr.checkKey e 10000 t k.val).run P w = .ok () w := by
  rcases keyKind_spec hk with ⟨s, rfl, hu⟩ | ⟨n, rfl, hu⟩ | ⟨s, n, rfl, hs⟩
  · exact run_checkKey hu (by trivial) e 9999
  · exact run_checkKey hu (by trivial) e 9999
  · exact si_check hs s n e
theorem key_find {t : TypeId} {k : Key} (hk : keyKind P t = k.kind) {l : List MapEntry} (hl : ∀ e ∈ l, ∃ k' : Key, e.key = k'.val ∧ k'.kind = k.kind) :
    ((Instr.findKey t k.val l).run P w = .ok none w ∧ ∀ e ∈ l, e.key ≠ k.val) ∨ ∃ j e, (Instr.findKey t k.val l).run P w = .ok (some (j, e.val)) w ∧ l[j]? = some e ∧ e.key = k.val := by
  have plain : ∀ d : TypeDesc, P.underlying t = some d → IsKey d k.val → (∀ e ∈ l, IsKey d e.key) → ((Instr.findKey t k.val l).run P w = .ok none w ∧ ∀ e ∈ l, e.key ≠ k.val) ∨ ∃ j e, (Instr.findKey t k.val l).run P w = .ok (some (j, e.val)) w ∧ l[j]? = some e ∧ e.key = k.val := by
    intro d hu hd hall
    rcases findNow_spec hd l 0 hall with ⟨h1, h2⟩ | ⟨j, e, h1, h2, h3⟩
    · exact .inl ⟨run_findKey hu h1, h2⟩
    · exact .inr ⟨j, e, by have := run_findKey (w := w) hu h1; rwa [Nat.zero_add] at this, h2, h3⟩
  rcases keyKind_spec hk with ⟨s, rfl, hu⟩ | ⟨n, rfl, hu⟩ | ⟨s, n, rfl, hs⟩
  · refine plain _ hu (by trivial) fun e he => ?_
    obtain ⟨k', h1, h2⟩ := hl e he
    cases k' with
    | str s => rw [h1]; trivial
    | int j n => cases j <;> simp [Key.kind] at h2
    | si s n => simp [Key.kind] at h2
  · refine plain _ hu (by trivial) fun e he => ?_
    obtain ⟨k', h1, h2⟩ := hl e he
    cases k' with
    | str s => simp [Key.kind] at h2
    | int j n => cases j <;> simp [Key.kind] at h2; rw [h1]; trivial
    | si s n => simp [Key.kind] at h2
  · obtain ⟨f, g, hu, _⟩ := siT_spec hs
    have ask : ∀ (l : List MapEntry) (i : Nat), (∀ e ∈ l, ∃ k' : Key, e.key = k'.val ∧ k'.kind = 3) →
        ((Instr.findAsking t (Key.si s n).val l i).run P w = .ok none w ∧ ∀ e ∈ l, e.key ≠ (Key.si s n).val) ∨ ∃ j e, (Instr.findAsking t (Key.si s n).val l i).run P w = .ok (some (i + j, e.val)) w ∧ l[j]? = some e ∧ e.key = (Key.si s n).val := by
      intro l
      induction l with
      | nil => intro i _; exact .inl ⟨rfl, by simp⟩
      | cons e l ih =>
        intro i hl
        obtain ⟨k', h1, h2⟩ := hl e (by simp)
        cases k' with
        | str s => simp [Key.kind] at h2
        | int j n => cases j <;> simp [Key.kind] at h2
        | si s' n' =>
          have heq := si_equal (w := w) hs s s' n n'
          simp only [Instr.findAsking, Sem.run_bind, h1, Key.val, heq, Result.andThen_ok]
          by_cases hc : s = s' ∧ n = n'
          · refine .inr ⟨0, e, ?_, by simp, by rw [h1, hc.1, hc.2]; rfl⟩
            simp [hc]
          · have hne : e.key ≠ (Key.si s n).val := fun q => hc (by
              have := Key.val_inj (h1.symm.trans q)
              cases this; exact ⟨rfl, rfl⟩)
            rw [decide_eq_false hc]
            simp only [Bool.false_eq_true, if_false]
            rcases ih (i + 1) (fun e' he => hl e' (by simp [he])) with ⟨q1, q2⟩ | ⟨j, e', q1, q2, q3⟩
            · exact .inl ⟨q1, fun x hx => (List.mem_cons.1 hx).elim (fun q => q ▸ hne) (q2 x)⟩
            · exact .inr ⟨j + 1, e', by rw [show i + (j + 1) = i + 1 + j by omega]; exact q1, by simpa using q2, q3⟩
    have hfn : ∀ l : List MapEntry, Instr.findKey t (Key.si s n).val l = (do match Instr.findNow (← underlying t) (Key.si s n).val l 0 with
        | some r => pure r
        | none => Instr.findAsking t (Key.si s n).val l) := fun _ => rfl
    have nowN : ∀ (x : MapEntry) (r : List MapEntry) (i : Nat), Instr.findNow (.struct #[f, g]) (Key.si s n).val (x :: r) i = none := fun x r i => rfl
    have hk3 : (Key.si s n).kind = 3 := rfl
    rw [hk3] at hl
    cases l with
    | nil =>
      refine .inl ⟨?_, by simp⟩
      rw [hfn]
      simp only [Sem.run_bind, run_underlying hu, Result.andThen_ok, Instr.findNow, Sem.run_pure]
    | cons x r =>
      have := ask (x :: r) 0 hl
      rw [hfn]
      simp only [Sem.run_bind, run_underlying hu, Result.andThen_ok, nowN]
      rcases this with q | ⟨j, e, q1, q2, q3⟩
      · exact .inl q
      · exact .inr ⟨j, e, by rwa [Nat.zero_add] at q1, q2, q3⟩
theorem same_key (k : Key) : Instr.sameBits 10000 k.val k.val = true := by
  show Instr.sameBits (9999 + 1) k.val k.val = true
  have hs : ∀ (s : ByteArray) (n : Nat), Instr.sameBits n (.string s) (.string s) = true := fun s n => by simp [Instr.sameBits, beq_toListBytes]
  have hi : ∀ (j : IntKind) (m : Int) (n : Nat), Instr.sameBits n (.int j m) (.int j m) = true := fun j m n => by simp [Instr.sameBits]
  cases k with
  | str s => exact hs s _
  | int j n => exact hi j n _
  | si s n => simp [Key.val, Instr.sameBits, beq_toListBytes]
theorem zeroV_run {t : TypeId} {x : AV} (hz : zeroV P t = some x) : ∃ z, (zeroValue t).run P w = .ok z w ∧ arel w I ι x z ∧ x.lt h.length := by
  unfold zeroV at hz
  cases hi : P.info? t with
  | none => simp [hi] at hz
  | some i =>
    simp only [hi, Option.bind_some] at hz
    cases hzz : i.zero with
    | none => simp [hzz] at hz
    | some z =>
      simp only [hzz, Option.bind_some] at hz
      refine ⟨z, by simp [zeroValue, typeInfo, hi, hzz], ?_⟩
      split at hz
      · rename_i vs
        cases hc : cstL vs.toList with
        | none => simp [hc] at hz
        | some xs =>
          simp only [hc, Option.map_some, Option.some.injEq] at hz
          subst hz
          obtain ⟨h1, h2, h3⟩ := cstL_rel (w := w) (I := I) (ι := ι) (n := h.length) hc
          simpa using mkAgg_rel h1 h3 h2
      · obtain ⟨h1, h2, _⟩ := cst0_rel (w := w) (I := I) (ι := ι) (n := h.length) hz
        exact ⟨h1, h2⟩
def mpOf (m : AV) (h : AHeap) : Option (Nat × (Key → Option AV)) := match m with
  | .mp id => match h[id]? with
    | some (.mp kk f) => some (kk, f)
    | _ => none
  | _ => none
def lkV (ok : Bool) (r z : Option AV) : Option AV := match r, z with
  | some v, _ => some (if ok = true then .tup [v, .pv (.bool true)] else v)
  | none, some z => some (if ok = true then .tup [z, .pv (.bool false)] else z)
  | none, none => none
def isNilm : AV → Bool
  | .pv .nilm => true
  | _ => false
def lkR (P : Program) (t : TypeId) (m k : AV) (ok : Bool) (h : AHeap) : Option AV := match mapK P t, toKey k with
  | some (kk, z), some key => if key.kind = kk then (if isNilm m = true then lkV ok none z else match mpOf m h with
    | some (kk', f) => if kk' = kk then lkV ok (f key) z else none
    | none => none) else none
  | _, _ => none
theorem mapK_spec {t : TypeId} {kk : Nat} {z : Option AV} (hm : mapK P t = some (kk, z)) : ∃ k e, P.underlying t = some (.map k e) ∧ keyKind P k = kk ∧ zeroV P e = z := by
  unfold mapK at hm
  split at hm <;> cases hm
  rename_i k e hu
  exact ⟨k, e, hu, rfl, rfl⟩
theorem lkR_sound (hI : Inv G ι I h w) {t : TypeId} {m k y : AV} {ok : Bool} {mv kv : Value} (hm : arel w I ι m mv) (hk : arel w I ι k kv) (hf : lkR P t m k ok h = some y) :
    ∃ u, (Instr.lookup t mv kv ok).run P w = .ok u w ∧ arel w I ι y u ∧ y.lt h.length := by
  unfold lkR at hf
  split at hf
  case h_2 => cases hf
  rename_i kk z key hmk hkey
  split at hf
  case isFalse => cases hf
  rename_i hkk
  obtain ⟨kt, et, hu, hkt, hz⟩ := mapK_spec hmk
  obtain rfl := toKey_rel hk hkey
  have miss : lkV ok none z = some y → ∃ u, ((do
      let v ← zeroValue et
      pure (if ok = true then Value.tuple #[v, .bool false] else v)) : Sem Value).run P w = .ok u w ∧ arel w I ι y u ∧ y.lt h.length := by
    intro hy
    cases z with
    | none => simp [lkV] at hy
    | some z' =>
      obtain ⟨zv, z1, z2, z3⟩ := zeroV_run (w := w) (I := I) (ι := ι) (h := h) hz
      simp only [lkV, Option.some.injEq] at hy
      subst hy
      refine ⟨_, by simp only [Sem.run_bind, z1, Result.andThen_ok, Sem.run_pure]; rfl, ?_⟩
      cases ok
      · exact ⟨z2, z3⟩
      · refine ⟨?_, z3, trivial, trivial⟩
        simp only [if_true, arel, arelL, rel]
        exact ⟨[zv, .bool false], rfl, _, _, rfl, z2, _, _, rfl, rfl, rfl⟩
  split at hf
  · rename_i hn
    have : mv = .map none := by
      unfold isNilm at hn
      split at hn
      · simpa only [arel, rel] using hm
      · cases hn
    subst this
    obtain ⟨u, u1, u2⟩ := miss hf
    refine ⟨u, ?_, u2⟩
    have hfk : (Instr.findKey kt key.val (#[] : Array MapEntry).toList).run P w = .ok none w := by
      rcases key_find (w := w) (l := []) (hkt.trans hkk.symm) (by simp) with ⟨q, _⟩ | ⟨j, e, _, q, _⟩
      · exact q
      · simp at q
    simp only [Instr.lookup, Sem.run_bind, run_underlying hu, Result.andThen_ok, Sem.run_pure, key_check (w := w) (hkt.trans hkk.symm), hfk]
    simp only [Sem.run_bind, Sem.run_pure] at u1
    cases hzr : (zeroValue et).run P w with
    | ok a w1 => rw [hzr] at u1; simpa using u1
    | halt x w1 => rw [hzr] at u1; simp [Result.andThen] at u1
  · split at hf
    case h_2 => cases hf
    rename_i kk' f hmp
    split at hf
    case isFalse => cases hf
    rename_i hkk2
    subst hkk2
    unfold mpOf at hmp
    split at hmp
    case h_2 => cases hmp
    rename_i id0 _
    split at hmp <;> cases hmp
    rename_i hob
    simp only [arel] at hm
    subst hm
    obtain ⟨hlt, ents, clock, hb, hmr⟩ := hI.obj id0 _ hob
    have hfind := key_find (w := w) (l := ents.toList) (hkt.trans hkk.symm) fun e he => by
      obtain ⟨k', v', q1, q2, _⟩ := hmr.1 e he
      exact ⟨k', q1, q2.trans hkk.symm⟩
    rcases hfind with ⟨q1, q2⟩ | ⟨j, e, q1, q2, q3⟩
    · have hnone : f key = none := by
        cases hfk : f key with
        | none => rfl
        | some v =>
          obtain ⟨e, he, hek⟩ := hmr.2.2 key v hfk
          exact absurd hek (q2 e he)
      rw [hnone] at hf
      obtain ⟨u, u1, u2⟩ := miss hf
      refine ⟨u, ?_, u2⟩
      simp only [Instr.lookup, Sem.run_bind, run_underlying hu, Result.andThen_ok, Sem.run_pure, Go.MapKept.run_getObj_map hb, key_check (w := w) (hkt.trans hkk.symm), q1]
      simp only [Sem.run_bind, Sem.run_pure] at u1
      cases hzr : (zeroValue et).run P w with
      | ok a w1 => rw [hzr] at u1; simpa using u1
      | halt x w1 => rw [hzr] at u1; simp [Result.andThen] at u1
    · obtain ⟨k', v, r1, r2, r3, r4⟩ := hmr.1 e (List.mem_of_getElem? q2)
      obtain rfl := Key.val_inj (q3.symm.trans r1)
      rw [r3] at hf
      simp only [lkV, Option.some.injEq] at hf
      subst hf
      refine ⟨_, by simp only [Instr.lookup, Sem.run_bind, run_underlying hu, Result.andThen_ok, Sem.run_pure, Go.MapKept.run_getObj_map hb, key_check (w := w) (hkt.trans hkk.symm), q1]; rfl, ?_⟩
      cases ok
      · exact ⟨r4, hlt _ _ r3⟩
      · refine ⟨?_, hlt _ _ r3, trivial, trivial⟩
        simp only [if_true, arel, arelL, rel]
        exact ⟨[e.val, .bool true], rfl, _, _, rfl, r4, _, _, rfl, rfl, rfl⟩
def mupd (f : Key → Option AV) (k : Key) (v : AV) : Key → Option AV := fun k' => if k' = k then some v else f k'
def muR (P : Program) (t : TypeId) (m k v : AV) (h : AHeap) : Option AHeap := match mapK P t, toKey k, m with
  | some (kk, _), some key, .mp id => match h[id]? with
    | some (.mp kk' f) => if key.kind = kk ∧ kk' = kk then some (h.set id (.mp kk' (mupd f key v))) else none
    | _ => none
  | _, _, _ => none
theorem modify_mem {g : MapEntry → MapEntry} : ∀ {l : List MapEntry} {j : Nat} {e : MapEntry}, e ∈ l.modify j g → (∃ e', l[j]? = some e' ∧ e = g e') ∨ ∃ i, i ≠ j ∧ l[i]? = some e := by
  intro l j e he
  obtain ⟨i, hi⟩ := List.mem_iff_getElem?.1 he
  rw [List.getElem?_modify] at hi
  by_cases hij : j = i
  · subst hij
    simp only [if_true] at hi
    cases hl : l[j]? with
    | none => simp [hl] at hi
    | some e' => simp [hl] at hi; exact .inl ⟨e', rfl, hi.symm⟩
  · simp only [hij, if_false, Option.map_eq_map, Option.map_id_fun', id_eq] at hi
    exact .inr ⟨i, fun q => hij q.symm, hi⟩
theorem muR_sound (hI : Inv G ι I h w) {t : TypeId} {m k x : AV} {mv kv xv : Value} {h' : AHeap} (hm : arel w I ι m mv) (hk : arel w I ι k kv) (hx : arel w I ι x xv) (hxl : x.lt h.length) (hf : muR P t m k x h = some h') :
    ∃ w', (Instr.mapUpdate t mv kv xv).run P w = .ok () w' ∧ Inv G ι I h' w' ∧ Ext I I ι ι h.length w w' ∧ h'.length = h.length := by
  unfold muR at hf
  split at hf
  case h_2 => cases hf
  rename_i kk z key id hmk hkey
  split at hf
  case h_2 => cases hf
  rename_i kk' f hob
  split at hf
  case isFalse => cases hf
  rename_i hkk
  obtain ⟨hkk, rfl⟩ := hkk
  cases hf
  obtain ⟨kt, et, hu, hkt, hz⟩ := mapK_spec hmk
  obtain rfl := toKey_rel hk hkey
  simp only [arel] at hm
  subst hm
  obtain ⟨hlt, ents, clock, hb, hmr⟩ := hI.obj id _ hob
  obtain ⟨m1, m2, m3⟩ := hmr
  have hlt' : (AObj.mp kk' (mupd f key x)).lt h.length := fun k v hv => by
    simp only [mupd] at hv
    split at hv
    · cases hv; exact hxl
    · exact hlt k v hv
  have done : ∀ (es' : Array MapEntry) (clock' : Nat), (∀ w', (∀ b, I b → w'.heap[b]? = w.heap[b]?) → mapRel w' I ι kk' (mupd f key x) es'.toList) →
      Inv G ι I (h.set id (.mp kk' (mupd f key x))) { w with heap := w.heap.setIfInBounds (ι id).1 (.map es' clock') } ∧ Ext I I ι ι h.length w { w with heap := w.heap.setIfInBounds (ι id).1 (.map es' clock') } := by
    intro es' clock' hm'
    obtain ⟨s1, s2⟩ := heap_set (o' := .map es' clock') hb
    obtain ⟨q1, q2, q3⟩ := hI.own id _ hob rfl
    exact hI.write hob rfl rfl rfl ⟨rfl, Nat.le_refl _⟩ (by simp) s2 hlt' ⟨es', clock', s1, hm' _ fun b hb' => s2 b (fun e => q2 (e ▸ hb'))⟩
  have keep : ∀ w' : World, (∀ b, I b → w'.heap[b]? = w.heap[b]?) → ∀ y v, arel w I ι y v → arel w' I ι y v := fun w' hw y v hy => by
    have hall : ∃ n, y.lt n := by
      have key : (∀ y : AV, ∃ n, y.lt n) := fun y => by
        induction y using AV.rec (motive_2 := fun ys => ∃ n, AV.ltL n ys) with
        | pv p => exact ⟨0, trivial⟩
        | nils => exact ⟨0, trivial⟩
        | ptr id off => exact ⟨id + 1, by simp [AV.lt]⟩
        | eptr id sz i j => exact ⟨id + 1, by simp [AV.lt]⟩
        | iptr cs => exact ⟨0, trivial⟩
        | osl id n => exact ⟨id + 1, by simp [AV.lt]⟩
        | osb id sz lo n => exact ⟨id + 1, by simp [AV.lt]⟩
        | agg cs ih => obtain ⟨n, hn⟩ := ih; exact ⟨n, hn⟩
        | tup cs ih => obtain ⟨n, hn⟩ := ih; exact ⟨n, hn⟩
        | fn f cs ih => obtain ⟨n, hn⟩ := ih; exact ⟨n, hn⟩
        | mp id => exact ⟨id + 1, by simp [AV.lt]⟩
        | undef => exact ⟨0, trivial⟩
        | nil => exact ⟨0, trivial⟩
        | cons c cs i1 i2 =>
          obtain ⟨n1, h1⟩ := i1
          obtain ⟨n2, h2⟩ := i2
          exact ⟨max n1 n2, AV.lt_mono (Nat.le_max_left _ _) _ h1, AV.ltL_mono (Nat.le_max_right _ _) _ h2⟩
      exact key y
    obtain ⟨n, hn⟩ := hall
    exact arel_ext (n := n) ⟨fun _ q => q, hw, fun _ _ => rfl⟩ y v hn hy
  have hfind := key_find (w := w) (l := ents.toList) (hkt.trans hkk.symm) fun e he => by
    obtain ⟨k', v', q1, q2, _⟩ := m1 e he
    exact ⟨k', q1, q2.trans hkk.symm⟩
  rcases hfind with ⟨q1, q2⟩ | ⟨j, e, q1, q2, q3⟩
  · obtain ⟨d1, d2⟩ := done (ents.push { key := key.val, val := xv, born := clock }) (clock + 1) (by
      intro w' hw
      refine ⟨fun e he => ?_, ?_, fun k v hv => ?_⟩
      · rw [Array.toList_push] at he
        rcases List.mem_append.1 he with he | he
        · obtain ⟨k', v', r1, r2, r3, r4⟩ := m1 e he
          refine ⟨k', v', r1, r2, ?_, keep w' hw _ _ r4⟩
          simp only [mupd]
          rw [if_neg (fun e1 => q2 e he (by rw [r1, e1]))]; exact r3
        · simp only [List.mem_singleton] at he
          subst he
          exact ⟨key, x, rfl, hkk, by simp [mupd], keep w' hw _ _ hx⟩
      · rw [Array.toList_push, List.map_append, List.nodup_append]
        refine ⟨m2, by simp, fun a ha b hb' => ?_⟩
        simp only [List.map_cons, List.map_nil, List.mem_singleton] at hb'
        subst hb'
        obtain ⟨e, he, rfl⟩ := List.mem_map.1 ha
        exact q2 e he
      · rw [Array.toList_push]
        simp only [mupd] at hv
        split at hv
        · rename_i e1; subst e1
          exact ⟨_, List.mem_append.2 (.inr (List.mem_singleton.2 rfl)), rfl⟩
        · obtain ⟨e, he, hek⟩ := m3 k v hv
          exact ⟨e, List.mem_append.2 (.inl he), hek⟩)
    refine ⟨_, ?_, d1, d2, by simp⟩
    simp only [Instr.mapUpdate, Sem.run_bind, run_underlying hu, Result.andThen_ok, Go.MapKept.run_getObj_map hb, key_check (w := w) (hkt.trans hkk.symm), q1, Go.MapKept.run_setObj_map _ hb]
  · have hej : ents[j]? = some e := by simpa using q2
    obtain ⟨k0, v0, r1, r2, r3, r4⟩ := m1 e (List.mem_of_getElem? q2)
    obtain rfl := Key.val_inj (q3.symm.trans r1)
    obtain ⟨d1, d2⟩ := done (ents.modify j fun e => { e with key := key.val, val := xv }) clock (by
      intro w' hw
      have hkeys : ((ents.toList.modify j fun e => { e with key := key.val, val := xv }).map (·.key)) = ents.toList.map (·.key) := by
        apply List.ext_getElem?
        intro i
        rw [List.getElem?_map, List.getElem?_map, List.getElem?_modify]
        by_cases hij : j = i
        · subst hij
          rw [q2]
          simp [q3]
        · simp [hij]
      refine ⟨fun e' he' => ?_, ?_, fun k v hv => ?_⟩
      · rw [Array.toList_modify] at he'
        rcases modify_mem he' with ⟨e1, g1, rfl⟩ | ⟨i, g1, g2⟩
        · exact ⟨key, x, rfl, hkk, by simp [mupd], keep w' hw _ _ hx⟩
        · obtain ⟨k', v', s1, s2, s3, s4⟩ := m1 e' (List.mem_of_getElem? g2)
          refine ⟨k', v', s1, s2, ?_, keep w' hw _ _ s4⟩
          simp only [mupd]
          rw [if_neg]
          · exact s3
          · rintro rfl
            have n1 : (ents.toList.map (·.key))[i]? = some k'.val := by rw [List.getElem?_map, g2]; simp [s1]
            have n2 : (ents.toList.map (·.key))[j]? = some k'.val := by rw [List.getElem?_map, q2]; simp [q3]
            have hi' := (List.getElem?_eq_some_iff.1 n1).1
            have hj' := (List.getElem?_eq_some_iff.1 n2).1
            have hp := List.pairwise_iff_getElem.1 m2
            have e1 := (List.getElem?_eq_some_iff.1 n1).2
            have e2 := (List.getElem?_eq_some_iff.1 n2).2
            rcases Nat.lt_trichotomy i j with q | q | q
            · exact hp i j hi' hj' q (by rw [e1, e2])
            · exact g1 q
            · exact hp j i hj' hi' q (by rw [e1, e2])
      · rw [Array.toList_modify, hkeys]; exact m2
      · rw [Array.toList_modify]
        have hin : ∀ k, (∃ e ∈ ents.toList, e.key = Key.val k) → ∃ e ∈ (ents.toList.modify j fun e => { e with key := key.val, val := xv }), e.key = Key.val k := by
          rintro k ⟨e1, he1, hk1⟩
          have : Key.val k ∈ (ents.toList.modify j fun e => { e with key := key.val, val := xv }).map (·.key) := by
            rw [hkeys]; exact List.mem_map.2 ⟨e1, he1, hk1⟩
          obtain ⟨e2, he2, hk2⟩ := List.mem_map.1 this
          exact ⟨e2, he2, hk2⟩
        simp only [mupd] at hv
        split at hv
        · rename_i e1; subst e1
          exact hin _ ⟨e, List.mem_of_getElem? q2, q3⟩
        · exact hin _ (m3 k v hv))
    refine ⟨_, ?_, d1, d2, by simp⟩
    have hold : ((ents[j]?).map (·.key)).getD key.val = key.val := by simp [hej, q3]
    simp only [Instr.mapUpdate, Sem.run_bind, run_underlying hu, Result.andThen_ok, Go.MapKept.run_getObj_map hb, key_check (w := w) (hkt.trans hkk.symm), q1, hold, Instr.keyThatStays, same_key, if_true, Sem.run_pure, Go.MapKept.run_setObj_map _ hb]
def mmR (P : Program) (t : TypeId) (r : Option AV) (h : AHeap) : Option (AV × AHeap) := match mapK P t, r with
  | some (kk, _), none => some (.mp h.length, h ++ [.mp kk fun _ => none])
  | some (kk, _), some (.pv (.int _ _)) => some (.mp h.length, h ++ [.mp kk fun _ => none])
  | _, _ => none
theorem mmR_sound (hI : Inv G ι I h w) {t : TypeId} {r : Option AV} {rv : Option Value} {y : AV} {h' : AHeap} (hr : obnd w I ι r rv) (hf : mmR P t r h = some (y, h')) : Post1 G ι I h w y h' ((Instr.makeMap t rv).run P w) := by
  have main : ∀ kk, Post1 G ι I h w (.mp h.length) (h ++ [.mp kk fun _ => none]) (.ok (.map (some w.heap.size)) (w.alloc (.map #[] 0))) := by
    intro kk
    obtain ⟨h1, h2⟩ := hI.alloc (.mp kk fun _ => none) (.map #[] 0) 0 (fun k v hv => by cases hv) rfl (fun w' ι' _ _ hn => ⟨#[], 0, hn, by simp, by simp, fun k v hv => by cases hv⟩)
    exact ⟨_, _, _, _, rfl, h1, h2, by simp, by simp [arel, upd], by simp [AV.lt]⟩
  unfold mmR at hf
  split at hf
  · rename_i kk z hmk
    cases hf
    cases rv with
    | none => exact main kk
    | some v => exact hr.elim
  · rename_i kk z k n hmk
    cases hf
    cases rv with
    | none => exact hr.elim
    | some v =>
      simp only [obnd, arel, rel] at hr
      subst hr
      obtain ⟨kt, et, hu, _⟩ := mapK_spec hmk
      have : (Instr.makeMap t (some (.int k n))).run P w = .ok (.map (some w.heap.size)) (w.alloc (.map #[] 0)) := by
        simp only [Instr.makeMap, Sem.run_bind, run_underlying hu, Result.andThen_ok, asInt, Sem.run_pure]
        rfl
      rw [this]; exact main kk
  · cases hf
/-- 'clear' of the rear of an own array: what stands there is not known any more. -/
def clR (P : Program) (t : TypeId) (x : AV) (h : AHeap) : Option (AV × AHeap) := match slS P t, x with
  | some (e, sz), .osb id sz' lo n => match zeroT P e, h[id]? with
    | some _, some (.arr T s es) => if sz' = sz ∧ s = sz ∧ lo + n ≤ es.length then some (.tup [], h.set id (.arr T s (es.take lo))) else none
    | _, _ => none
  | _, _ => none
theorem zeroCells_len (z : Array Value) (n : Nat) : (Builtin.zeroCells z n).size = n * z.size := by simp [Builtin.zeroCells]
theorem zeroCells_mem {z : Array Value} {n : Nat} {v : Value} (hv : v ∈ (Builtin.zeroCells z n).toList) : v ∈ z.toList := by
  simp only [Builtin.zeroCells, Array.toList_map, List.mem_map, Array.mem_toList_iff, Array.mem_range] at hv
  obtain ⟨i, hi, rfl⟩ := hv
  have hz : 0 < z.size := by
    rcases Nat.eq_zero_or_pos z.size with h | h
    · rw [h] at hi; simp at hi
    · exact h
  have : i % z.size < z.size := Nat.mod_lt _ hz
  rw [getElem!_pos z _ this]
  simp
theorem clR_sound (hI : Inv G ι I h w) {t ty : TypeId} {x r : AV} {v : Value} {h' : AHeap} (hx : arel w I ι x v) (hf : clR P t x h = some (r, h')) : Post1 G ι I h w r h' ((Builtin.clear_ #[t] ty #[v]).run P w) := by
  unfold clR at hf
  split at hf
  case h_2 => cases hf
  rename_i e sz id sz' lo n hs
  obtain ⟨hu, hz⟩ := slS_spec hs
  split at hf
  case h_2 => cases hf
  rename_i zl T s es hzz hob
  split at hf <;> cases hf
  rename_i hc
  obtain ⟨rfl, rfl, hlo⟩ := hc
  simp only [arel] at hx
  obtain ⟨A, cap, rfl, hn, hA⟩ := hx
  have hid : id < h.length := (List.getElem?_eq_some_iff.1 hob).1
  have done : ∀ w' : World, (Builtin.clear_ #[t] ty #[.slice A n cap]).run P w = .ok (.tuple #[]) w' → Inv G ι I (h.set id (.arr T s (es.take lo))) w' → Ext I I ι ι h.length w w' →
      Post1 G ι I h w (.tup []) (h.set id (.arr T s (es.take lo))) ((Builtin.clear_ #[t] ty #[.slice A n cap]).run P w) := by
    intro w' h1 h2 h3
    rw [h1]
    exact ⟨_, _, _, _, rfl, h2, h3, by simp, by simp only [arel, arelL]; exact ⟨[], rfl, rfl⟩, trivial⟩
  -- fewer elements are known: nothing else has turned
  have less : ∀ w' : World, Inv G ι I (h.set id (.arr T s es)) w' → Inv G ι I (h.set id (.arr T s (es.take lo))) w' := by
    intro w' hI'
    have hget : ∀ j o, (h.set id (.arr T s (es.take lo)))[j]? = some o → (j = id ∧ o = .arr T s (es.take lo)) ∨ (j ≠ id ∧ (h.set id (.arr T s es))[j]? = some o) := by
      intro j o hj
      by_cases e1 : j = id
      · subst e1; rw [List.getElem?_set_self hid] at hj; cases hj; exact .inl ⟨rfl, rfl⟩
      · rw [List.getElem?_set_ne (fun q => e1 q.symm)] at hj; exact .inr ⟨e1, by rw [List.getElem?_set_ne (fun q => e1 q.symm)]; exact hj⟩
    have hself : (h.set id (.arr T s es))[id]? = some (.arr T s es) := List.getElem?_set_self hid
    refine ⟨hI'.os, hI'.tape, hI'.output, hI'.size, hI'.frame, hI'.sub, hI'.bound, fun j o hj => ?_, fun j o hj hl => ?_, fun i j oi oj hi hj hne li lj => ?_⟩
    · rcases hget j o hj with ⟨e1, e2⟩ | ⟨_, e2⟩
      · subst e1; subst e2
        refine ⟨trivial, ?_⟩
        rcases (hI'.obj j _ hself).2 with ⟨k0, k1⟩ | ⟨k0, vs, k1, k2, k3, k4, k5, k6⟩
        · exact .inl ⟨k0, by rw [k1]; simp⟩
        · exact .inr ⟨k0, vs, k1, k2, by rw [List.length_take]; omega, k4, by rw [List.length_take]; omega, arrRel_take lo k6⟩
      · have := hI'.obj j o e2
        simpa using this
    · rcases hget j o hj with ⟨e1, e2⟩ | ⟨_, e2⟩
      · subst e1; subst e2; exact hI'.own j _ hself hl
      · exact hI'.own j o e2 hl
    · rcases hget i oi hi with ⟨e1, e2⟩ | ⟨_, e2⟩ <;> rcases hget j oj hj with ⟨e3, e4⟩ | ⟨_, e4⟩
      · omega
      · subst e1; subst e2; exact hI'.inj _ j _ oj hself e4 hne li lj
      · subst e3; subst e4; exact hI'.inj i _ oi _ e2 hself hne li lj
      · exact hI'.inj i j oi oj e2 e4 hne li lj
  have hsame : h.set id (.arr T s es) = h := by
    apply List.ext_getElem?
    intro j
    by_cases e1 : j = id
    · subst e1; rw [List.getElem?_set_self hid, hob]
    · rw [List.getElem?_set_ne (fun q => e1 q.symm)]
  by_cases h0 : n = 0
  · subst h0
    refine done w ?_ (less w (by rw [hsame]; exact hI)) (Ext.refl _ _ _ _)
    cases A <;> simp [Builtin.clear_, run_underlying hu]
  · obtain rfl := hA.resolve_left h0
    rcases (hI.obj id _ hob).2 with ⟨k0, e0⟩ | ⟨k0, vs, k1, k2, k3, k4, k5, k6⟩
    · subst e0; simp at hlo; omega
    have hlv : (AObj.arr T s es).live (ι id).2 = true := by simpa [AObj.live] using k0
    obtain ⟨z, z1, z2, z3⟩ := zeroT_run (w := w) hzz
    have hzs : z.cells.size = s := by rw [hz] at z2; simpa using z2.symm
    have hvl := arrRel_length k6
    have hmul : (lo + n) * s ≤ es.length * s := Nat.mul_le_mul_right _ hlo
    rw [Nat.add_mul] at hmul
    have hz1 : ∀ u ∈ z.cells.toList, u.oneCell' = true := by
      obtain ⟨c1, c2, c3⟩ := cstL_rel (w := w) (I := I) (ι := ι) (n := h.length) z3
      exact arelL_one c1 c3
    have hlen : (Builtin.zeroCells z.cells n).toList.length = n * s := by rw [Array.length_toList, zeroCells_len, hzs]
    have hst := run_storeCells_at (P := P) (ι id).1 (lo * s) T (Builtin.zeroCells z.cells n).toList 0 vs.toArray w k1 (by rw [hlen]; simp only [List.size_toArray]; omega) (fun u hu' => hz1 u (zeroCells_mem hu'))
    obtain ⟨q1, q2, q3⟩ := hI.own id _ hob hlv
    have hrun : (Builtin.clear_ #[t] ty #[.slice (some ⟨(ι id).1, lo * s, none⟩) n cap]).run P w = .ok (.tuple #[]) (w.setRow (ι id).1 (splice vs (lo * s) (Builtin.zeroCells z.cells n).toList).toArray) := by
      have hst' : (storeCells ⟨(ι id).1, lo * s, none⟩ (Builtin.zeroCells z.cells n).toList).run P w = .ok () (w.setRow (ι id).1 (splice vs (lo * s) (Builtin.zeroCells z.cells n).toList).toArray) := by simpa [splice] using hst
      match n, h0 with
      | n + 1, _ => simp [Builtin.clear_, run_underlying hu, z1, hst']
    obtain ⟨e1, e2⟩ := hI.write (o' := .arr T s (es.take lo)) (w' := w.setRow (ι id).1 (splice vs (lo * s) (Builtin.zeroCells z.cells n).toList).toArray) hob hlv rfl rfl ⟨rfl, Nat.le_refl _⟩ (by simp [World.setRow]) (fun b hb => setRow_far hb) trivial (by
      refine .inr ⟨k0, _, setRow_at k1, ?_, by rw [List.length_take]; omega, k4, by rw [List.length_take]; omega, ?_⟩
      · rw [splice_length (by rw [hlen]; omega)]; exact k2
      · refine arrRel_prefix (arrRel_take lo (arrRel_keep (fun b hb => setRow_far (fun e => q2 (by rw [← e]; exact hb))) (fun _ x => x) k6)) ?_
        rw [List.length_take, Nat.min_eq_left (by omega)]
        apply List.ext_getElem?
        intro j
        rw [List.getElem?_take, List.getElem?_take]
        by_cases hj : j < lo * s
        · rw [if_pos hj, if_pos hj, splice_get (by rw [hlen]; omega), if_neg (by omega)]
        · rw [if_neg hj, if_neg hj])
    exact done _ hrun e1 e2
end
end Go.Proofs.YtahamnipffckhaaDoor
