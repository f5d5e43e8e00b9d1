import Derived.Test.YtahamnipffckhaaDoorAm16
set_option linter.unusedVariables false
set_option linter.unusedSimpArgs false
namespace Go.Proofs.YtahamnipffckhaaDoor
open Go Go.RowKit

/-! ### 32. A region that draws -/
section
variable {P : Program} {N pin m : Nat} {ops : Array Oper}
theorem At.drawn {c : Cx} {e : AEnv} {h : AHeap} {a : Act} {w : World} {ι : Nat → Nat × Nat} {I : Nat → Prop} (hA : At N pin c e h a w ι I) (n : Nat) (hn : w.drawn ≤ n) : At N pin c e h a { w with drawn := n } ι I := by
  have hE : Ext I I ι ι h.length w { w with drawn := n } := ⟨fun _ x => x, fun _ _ => rfl, fun _ _ => rfl⟩
  have hI := hA.inv
  refine ⟨⟨hI.os, hI.tape, ⟨hI.output.1, Nat.le_trans hI.output.2 hn⟩, hI.size, hI.frame, hI.sub, hI.bound, fun id o ho => ?_, hI.own, hI.inj⟩, hA.env.ext hE (Nat.le_refl _), ⟨hA.ext.hi, hA.ext.hk, hA.ext.hj⟩, hA.pin, hA.dfr⟩
  obtain ⟨h1, h2⟩ := hI.obj id o ho
  exact ⟨h1, objRel_ext hE (fun _ => rfl) h1 h2⟩
def cnt (listed : Array Bool) : Nat := listed.toList.countP (fun b => !b)
theorem cnt_set {listed : Array Bool} {i : Nat} (hi : i < listed.size) (hf : listed.getD i false = false) : cnt (listed.setIfInBounds i true) + 1 = cnt listed := by
  have hl : i < listed.toList.length := by simpa using hi
  have hv : listed.toList[i] = false := by simpa [hi] using hf
  unfold cnt
  rw [Array.toList_setIfInBounds, List.countP_set hl]
  have : 0 < listed.toList.countP (fun b => !b) := List.countP_pos_iff.2 ⟨false, by rw [← hv]; exact List.getElem_mem hl, rfl⟩
  simp only [hv, Bool.not_false, Bool.not_true, if_true, Bool.false_eq_true, if_false]
  omega
theorem cnt_zero {listed : Array Bool} (hc : cnt listed = 0) {i : Nat} (hi : i < listed.size) : listed.getD i false = true := by
  unfold cnt at hc
  rw [List.countP_eq_zero] at hc
  have := hc listed[i] (by simp)
  simpa [hi] using this
theorem ready_nil {listed : Array Bool} (hf : ∀ (i : Nat) (o : Oper), ops[i]? = some o → ∀ e ∈ o.after, Region.binds .any e = true → e.on < i) (hs : listed.size = ops.size) (hr : Region.ready .any ops listed = []) {i : Nat} (hi : i < ops.size) : listed.getD i false = true := by
  cases hx : listed.getD i false with
  | true => rfl
  | false =>
    obtain ⟨j, ⟨hj, hjf⟩, hmin⟩ := exists_min (p := fun j => j < ops.size ∧ listed.getD j false = false) ⟨i, hi, hx⟩
    have : j ∈ Region.ready .any ops listed := by
      rw [mem_ready]
      refine ⟨by rw [getD_def (by rw [hs]; exact hj) true false]; exact hjf, ops[j], Array.getElem?_eq_getElem hj, fun e he hb => ?_⟩
      have hlt := hf j _ (Array.getElem?_eq_getElem hj) e he hb
      cases hy : listed.getD e.on false with
      | true => rfl
      | false =>
        have := hmin e.on ⟨by omega, hy⟩
        omega
    rw [hr] at this
    cases this
theorem tail_seq (hf : ∀ (i : Nat) (o : Oper), ops[i]? = some o → ∀ e ∈ o.after, Region.binds .any e = true → e.on < i) (ht : ∀ i j : Nat, m ≤ i → i < ops.size → j < i → has (clM ops.toList []) i j = true) {Q : Exit → Act → World → Prop} : ∀ (fuel : Nat) (listed : Array Bool) (i : Nat) (a : Act) (w : World), listed.size = ops.size → cnt listed ≤ fuel → i ≤ ops.size → m ≤ i →
    (∀ j, j < ops.size → (listed.getD j false = true ↔ j < i)) → (∀ (i : Nat) (o : Oper), ops[i]? = some o → listed.getD i false = true → ∀ e ∈ o.after, Region.binds .any e = true → listed.getD e.on false = true) → wpList P ops Q (ops.toList.drop i) a w → wpAny P .any ops Q fuel listed a w := by
  intro fuel
  induction fuel with
  | zero =>
    intro listed i a w hs hc hi hm hl hdn hw
    have hin : i = ops.size := by
      rcases Nat.lt_or_ge i ops.size with k | k
      · have := (hl i k).1 (cnt_zero (by omega) (by omega)); omega
      · omega
    subst hin
    rw [List.drop_of_length_le (by simp)] at hw
    refine ⟨?_, hw⟩
    apply List.eq_nil_iff_forall_not_mem.2
    intro j hj
    rw [mem_ready] at hj
    obtain ⟨h1, o, h2, _⟩ := hj
    have hjn := (Array.getElem?_eq_some_iff.1 h2).1
    rw [getD_def (by rw [hs]; exact hjn) true false, (hl j hjn).2 hjn] at h1
    cases h1
  | succ fuel ih =>
    intro listed i a w hs hc hi hm hl hdn hw
    rcases Nat.lt_or_ge i ops.size with hin | hin
    · have ho : ops[i]? = some ops[i] := Array.getElem?_eq_getElem hin
      have hdrop : ops.toList.drop i = ops[i] :: ops.toList.drop (i + 1) := by
        rw [← List.getElem_cons_drop (by simpa using hin)]; simp
      rw [hdrop] at hw
      have hif : listed.getD i false = false := by
        cases hx : listed.getD i false with
        | false => rfl
        | true => have := (hl i hin).1 hx; omega
      refine ⟨fun hr => ?_, fun j hj => ?_⟩
      · have := ready_nil hf hs hr hin
        rw [hif] at this; cases this
      · rw [mem_ready] at hj
        obtain ⟨h1, o, h2, h3⟩ := hj
        have hjn := (Array.getElem?_eq_some_iff.1 h2).1
        rw [getD_def (by rw [hs]; exact hjn) true false] at h1
        have hji : j = i := by
          rcases Nat.lt_trichotomy j i with k | k | k
          · rw [(hl j hjn).2 k] at h1; cases h1
          · exact k
          · have := has_listed (L := fun j => listed.getD j false = true) hdn j o h2 h3 i (ht j i (by omega) hjn k)
            rw [hif] at this; cases this
        subst hji
        have hsz : j < listed.size := by omega
        have heq : wpOp P ops Q j (wpList P ops Q (ops.toList.drop (j + 1))) a w := by
          unfold wpOp
          simp only [ho]
          exact hw
        refine wpOp_mono (fun a' w' hw' => ih (listed.setIfInBounds j true) (j + 1) a' w' (by simp [hs]) ?_ (by omega) (by omega) (fun k hk => ?_) (fun k ok hok hlk e he hb => ?_) hw') heq
        · have := cnt_set hsz hif; omega
        · rw [getD_set hsz]
          split
          · rename_i e; subst e; simp
          · rw [hl k hk]; omega
        · rw [getD_set hsz] at hlk ⊢
          split
          · rfl
          · split at hlk
            · rename_i e1; subst e1; rw [h2] at hok; cases hok; exact h3 e he hb
            · exact hdn k ok hok hlk e he hb
    · have hin' : i = ops.size := by omega
      subst hin'
      rw [List.drop_of_length_le (by simp)] at hw
      refine ⟨fun _ => hw, fun j hj => ?_⟩
      rw [mem_ready] at hj
      obtain ⟨h1, o, h2, _⟩ := hj
      have hjn := (Array.getElem?_eq_some_iff.1 h2).1
      rw [getD_def (by rw [hs]; exact hjn) true false, (hl j hjn).2 hjn] at h1
      cases h1
theorem any_order (hd : DrawOk ops N m (clM ops.toList [])) {E : Nat → AEnv} {H : Nat → AHeap} {V : Nat → AV} (hT : Txt P ops m E H V) {Q : AQ} (htail : SemL P N pin ops (ops.toList.drop m) Q (E m) (H m)) {cx : Cx} :
    ∀ (fuel : Nat) (listed : Array Bool) (a : Act) (w : World), InvL P N pin ops m (E m) H cx listed a w → cnt listed ≤ fuel → wpAny P .any ops (QR N pin cx Q) fuel listed a w := by
  have done : ∀ (fuel : Nat) (listed : Array Bool) (a : Act) (w : World), InvL P N pin ops m (E m) H cx listed a w → cnt listed ≤ fuel → (∀ j, j < m → listed.getD j false = true) → wpAny P .any ops (QR N pin cx Q) fuel listed a w := by
    intro fuel listed a w hv hc hall
    obtain ⟨q, hq, q1, q2, ι, I, hA⟩ := hv.st
    have he : eL ops m (E m) listed = E m := by
      funext t
      simp only [eL]
      rw [if_neg]
      rw [unl_true]
      rintro ⟨j, h1, h2, _⟩
      rw [hall j h1] at h2; cases h2
    have hh : H m = H q := hT.heap hd.le m hq (Nat.le_refl _) fun j h1 h2 => by
      rcases Nat.lt_or_ge (clsOf ops j) 2 with k | k
      · exact k
      · have := q2 j h1 h2 k
        rw [hall j h2] at this; cases this
    rw [he, ← hh] at hA
    refine tail_seq hd.fwd hd.tail fuel listed m a w hv.size hc hd.le (Nat.le_refl _) (fun j hj => ⟨fun k => ?_, hall j⟩) hv.down (htail cx a w ι I hA)
    rcases Nat.lt_or_ge j m with k' | k'
    · exact k'
    · rw [hv.tail j k'] at k; cases k
  intro fuel
  induction fuel with
  | zero =>
    intro listed a w hv hc
    exact done 0 listed a w hv hc fun j hj => cnt_zero (by omega) (by rw [hv.size]; exact Nat.lt_of_lt_of_le hj hd.le)
  | succ fuel ih =>
    intro listed a w hv hc
    by_cases hall : ∀ j, j < m → listed.getD j false = true
    · exact done _ listed a w hv hc hall
    · have hex : ∃ j, j < m ∧ listed.getD j false = false := by
        refine Classical.byContradiction fun hn => hall fun j hj => ?_
        cases hx : listed.getD j false with
        | true => rfl
        | false => exact absurd ⟨j, hj, hx⟩ hn
      obtain ⟨j0, hj0, hf0⟩ := hex
      refine ⟨fun hr => ?_, fun i hi => ?_⟩
      · have := ready_nil hd.fwd hv.size hr (Nat.lt_of_lt_of_le hj0 hd.le)
        rw [hf0] at this; cases this
      · rw [mem_ready] at hi
        obtain ⟨h1, o, h2, h3⟩ := hi
        have hin := (Array.getElem?_eq_some_iff.1 h2).1
        rw [getD_def (by rw [hv.size]; exact hin) true false] at h1
        have him : i < m := by
          rcases Nat.lt_or_ge i m with k | k
          · exact k
          · have := has_listed (L := fun j => listed.getD j false = true) hv.down i o h2 h3 j0 (hd.tail i j0 k hin (by omega))
            rw [hf0] at this; cases this
        exact hv.step hd hT him h2 h1 h3 fun a' w' hv' => ih _ a' w' hv' (by
          have := cnt_set (by rw [hv.size]; exact hin) h1; omega)
inductive Run (P : Program) (all : Array Oper) : List Oper → AEnv → AHeap → AEnv → AHeap → Prop
  | nil {e h} : Run P all [] e h e h
  | cons {o r e h v h1 e' h'} : TOp P all e h o v h1 → Run P all r (putO e o.dst v) h1 e' h' → Run P all (o :: r) e h e' h'
theorem Run.txt {all : Array Oper} : ∀ {l : List Oper} {e : AEnv} {h : AHeap} {e' : AEnv} {h' : AHeap}, Run P all l e h e' h' →
    ∃ (E : Nat → AEnv) (H : Nat → AHeap) (V : Nat → AV), E 0 = e ∧ H 0 = h ∧ E l.length = e' ∧ H l.length = h' ∧ ∀ (i : Nat) (o : Oper), l[i]? = some o → TOp P all (E i) (H i) o (V i) (H (i + 1)) ∧ E (i + 1) = putO (E i) o.dst (V i)
  | [], e, h, _, _, .nil => ⟨fun _ => e, fun _ => h, fun _ => .undef, rfl, rfl, rfl, rfl, fun i o hi => by simp at hi⟩
  | o :: r, e, h, e', h', .cons (v := v) (h1 := h1) hT hR => by
    obtain ⟨E, H, V, a1, a2, a3, a4, a5⟩ := Run.txt hR
    refine ⟨fun i => match i with | 0 => e | i + 1 => E i, fun i => match i with | 0 => h | i + 1 => H i, fun i => match i with | 0 => v | i + 1 => V i, rfl, rfl, a3, a4, fun i o' hi => ?_⟩
    cases i with
    | zero =>
      simp only [List.getElem?_cons_zero, Option.some.injEq] at hi
      subst hi
      exact ⟨by show TOp P all e h o v (H 0); rw [a2]; exact hT, a1⟩
    | succ i => exact a5 i o' (by simpa using hi)
def DrZ (z : Bool) (P : Program) (N : Nat) (all : Array Oper) (l : List Oper) (e : AEnv) (h : AHeap) (K : Bool → AEnv → AHeap → Prop) : Prop := ∃ e' h', Run P all l e h e' h' ∧ K true e' h'
theorem vz_draw {l : List Oper} {id : Nat} {k : List It} {Q : AQ} {e : AEnv} {h : AHeap} (m : Nat) (hm : P.follows .mixedOrders = true) (hc : drawOk l.toArray N m = true)
    (hr : DrZ true P N l.toArray (l.take m) e h (fun z e' h' => VcZ z P N pin Q (.ops l.toArray (l.drop m) :: k) e' h')) : VcZ true P N pin Q (.code (.region id l.toArray true) :: k) e h := by
  refine Vc.stop rfl ?_
  simp only [After]
  intro cx a w ι I hA
  have hd := DrawOk.of hc
  obtain ⟨e', h', hR, hK⟩ := hr
  obtain ⟨E, H, V, a1, a2, a3, a4, a5⟩ := hR.txt
  have hml : m ≤ l.length := by simpa using hd.le
  have hlen : (l.take m).length = m := by simp; omega
  rw [hlen] at a3 a4
  have hT : Txt P l.toArray m E H V := by
    constructor <;> intro i o hi ho
    · exact (a5 i o (by rw [List.getElem?_take_of_lt hi]; simpa using ho)).1
    · exact (a5 i o (by rw [List.getElem?_take_of_lt hi]; simpa using ho)).2
  have htail := Vc.sound hK
  simp only [After] at htail
  refine wp_region_any hm ?_
  refine any_order hd hT (Q := After P N pin Q k) (by rw [a3, a4]; exact htail) (cx := cx) _ _ _ _ ?_ ?_
  · have hf : ∀ i, (Array.replicate l.toArray.size false).getD i false = false := fun i => by
      simp only [Array.getD_eq_getD_getElem?, Array.getElem?_replicate]
      split <;> rfl
    refine ⟨by simp, fun i o _ hl => (by rw [hf] at hl; cases hl), fun i _ => hf i, 0, Nat.zero_le _, fun i hi => (by omega), fun i _ _ _ => hf i, ι, I, ?_⟩
    have hA' := hA.drawn (w.drawn + 1) (Nat.le_succ _)
    rw [a2]
    refine ⟨hA'.inv, hA'.env.forget fun t => ?_, hA'.ext, hA'.pin, hA'.dfr⟩
    simp only [eL]
    split
    · exact .inr rfl
    · rename_i hu
      left
      rw [← a1]
      refine hT.same hd.le (i := 0) m (Nat.zero_le _) (Nat.le_refl _) fun j _ hj hjd => hu ?_
      rw [unl_true]
      exact ⟨j, hj, hf j, hjd⟩
  · unfold cnt
    exact Nat.le_trans List.countP_le_length (by simp)
end
section
variable {P : Program} {N : Nat} {all : Array Oper} {rest : List Oper} {e : AEnv} {h : AHeap} {K : Bool → AEnv → AHeap → Prop} {dst : Option Tmp} {op : Op} {ty : TypeId} {pos : String} {after : Array Edge}
@[go_sem ↓] theorem dz_nil : DrZ true P N all [] e h K = K true e h := by
  apply propext; constructor
  · rintro ⟨e', h', hR, hK⟩; cases hR; exact hK
  · exact fun hK => ⟨e, h, .nil, hK⟩
theorem TOp.bare {o : Oper} {v : AV} {h1 : AHeap} (hw : Wan all e o) : TOp P all e h { o with guard := none } v h1 ↔ TOp P all e h o v h1 := by
  constructor
  · intro hT
    cases hT with
    | skip k1 => cases k1
    | skipU k1 => cases k1
    | run _ k2 k3 => exact .run hw k2 k3
    | call _ k2 k3 k4 k5 => exact .call hw k2 k3 k4 k5
  · intro hT
    cases hT with
    | skip k1 k2 k3 =>
      rcases hw with hw | ⟨j', b', h1', h2'⟩
      · rw [hw] at k1; cases k1
      · rw [h1'] at k1; cases k1
        rw [h2'] at k2; cases k2
        exact absurd rfl k3
    | skipU k1 k2 =>
      rcases hw with hw | ⟨j', b', h1', h2'⟩
      · rw [hw] at k1; cases k1
      · rw [h1'] at k1; cases k1
        rw [h2'] at k2; cases k2
    | run _ k2 k3 => exact .run (.inl rfl) k2 k3
    | call _ k2 k3 k4 k5 => exact .call (.inl rfl) k2 k3 k4 k5
@[go_sem ↓] theorem dz_guard {j : Nat} {b : Bool} : DrZ true P N all (⟨dst, op, ty, pos, after, some (j, b)⟩ :: rest) e h K = brG (yld all e j) b (fun z => DrZ z P N all (⟨dst, op, ty, pos, after, none⟩ :: rest) e h K) (fun z => DrZ z P N all rest (putO e dst (.tup [])) h K) := by
  apply propext; constructor
  · rintro ⟨e', h', hR, hK⟩
    cases hR with
    | cons hT hR =>
      cases hT with
      | skip k1 k2 k3 => cases k1; exact .inl ⟨_, k2, fun e => absurd e k3, fun _ => ⟨e', h', hR, hK⟩⟩
      | skipU k1 k2 => cases k1; exact .inr ⟨k2, e', h', hR, hK⟩
      | run k1 k2 k3 =>
        rcases k1 with k1 | ⟨j', b', k1, k4⟩
        · cases k1
        · cases k1; exact .inl ⟨_, k4, fun _ => ⟨e', h', .cons (.run (.inl rfl) k2 k3) hR, hK⟩, fun hn => absurd rfl hn⟩
      | call k1 k2 k3 k4 k5 =>
        rcases k1 with k1 | ⟨j', b', k1, k6⟩
        · cases k1
        · cases k1; exact .inl ⟨_, k6, fun _ => ⟨e', h', .cons (.call (.inl rfl) k2 k3 k4 k5) hR, hK⟩, fun hn => absurd rfl hn⟩
  · rintro (⟨b', hy, h1, h2⟩ | ⟨hy, h2⟩)
    rotate_left
    · obtain ⟨e', h', hR, hK⟩ := h2
      exact ⟨e', h', .cons (.skipU rfl hy) hR, hK⟩
    by_cases hb : b' = b
    · obtain ⟨e', h', hR, hK⟩ := h1 hb
      cases hR with
      | cons hT hR => exact ⟨e', h', .cons ((TOp.bare (o := ⟨dst, op, ty, pos, after, some (j, b)⟩) (.inr ⟨j, b, rfl, by rw [hy, hb]⟩)).1 hT) hR, hK⟩
    · obtain ⟨e', h', hR, hK⟩ := h2 hb
      exact ⟨e', h', .cons (.skip rfl hy hb) hR, hK⟩
@[go_sem ↓] theorem dz_opA (hk : kind op = 0) : DrZ true P N all (⟨dst, op, ty, pos, after, none⟩ :: rest) e h K = kOp (opA P e h op) (fun z v h' => DrZ z P N all rest (putO e dst v) h' K) := by
  apply propext; constructor
  · rintro ⟨e', h', hR, hK⟩
    cases hR with
    | cons hT hR =>
      cases hT with
      | skip k1 => cases k1
      | skipU k1 => cases k1
      | run k1 k2 k3 => exact ⟨_, _, k3, e', h', hR, hK⟩
      | call k1 k2 => simp only at k2; subst k2; simp [kind] at hk
  · rintro ⟨v, h1, k1, e', h', hR, hK⟩
    exact ⟨e', h', .cons (.run (.inl rfl) hk k1) hR, hK⟩
def PCallZ (P : Program) (ff : Option (FuncId × List AV)) (pp : Option (List PV × AHeap)) (K : Bool → PV → Prop) : Prop := ∃ f ps r, ff = some (f, []) ∧ pp = some (ps, []) ∧ Pure P f ps r ∧ K true r
@[congr] theorem PCallZ_congr {ff ff' : Option (FuncId × List AV)} {pp pp' : Option (List PV × AHeap)} {K : Bool → PV → Prop} (h1 : ff = ff') (h2 : pp = pp') : PCallZ P ff pp K = PCallZ P ff' pp' K := by subst h1; subst h2; rfl
theorem PCallZ.of {f : FuncId} {ps : List PV} {r : PV} {K : Bool → PV → Prop} (hp : Pure P f ps r) (hk : K true r) : PCallZ P (some (f, [])) (some (ps, [])) K := ⟨f, ps, r, rfl, rfl, hp, hk⟩
@[go_sem ↓] theorem dz_call {x : Operand} {args : Array Operand} {argTypes : Array TypeId} :
    DrZ true P N all (⟨dst, .call { callee := .value x, args, argTypes }, ty, pos, after, none⟩ :: rest) e h K = PCallZ P (fnOf (opd e x)) (frzA [] (args.toList.map (opd e))) (fun z r => DrZ z P N all rest (putO e dst (.pv r)) h K) := by
  apply propext; constructor
  · rintro ⟨e', h', hR, hK⟩
    cases hR with
    | cons hT hR =>
      cases hT with
      | skip k1 => cases k1
      | skipU k1 => cases k1
      | run k1 k2 k3 => simp [kind] at k2
      | call k1 k2 k3 k4 k5 =>
        simp only [Op.call.injEq, Call.mk.injEq, Callee.value.injEq] at k2
        obtain ⟨rfl, rfl, rfl⟩ := k2
        exact ⟨_, _, _, k3, k4, k5, e', h', hR, hK⟩
  · rintro ⟨f, ps, r, k3, k4, k5, e', h', hR, hK⟩
    exact ⟨e', h', .cons (.call (.inl rfl) rfl k3 k4 k5) hR, hK⟩
end
end Go.Proofs.YtahamnipffckhaaDoor
