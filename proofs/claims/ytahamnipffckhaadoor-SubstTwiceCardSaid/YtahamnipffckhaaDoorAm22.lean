import Derived.Test.YtahamnipffckhaaDoorAm21
set_option linter.unusedVariables false
set_option linter.unusedSimpArgs false
namespace Go.Proofs.YtahamnipffckhaaDoor
open Go Go.RowKit

/-! ### 39. A region that draws, whose operations do not all commute: every order, one by one -/
def nxt : List (List Nat) → Nat → List Nat → List Nat
  | [], _, _ => []
  | d :: ds, i, L => if L.contains i = false ∧ d.all (L.contains ·) = true then i :: nxt ds (i + 1) L else nxt ds (i + 1) L
theorem nxt_mem : ∀ {ds : List (List Nat)} {i j : Nat} {L : List Nat} {d : List Nat}, ds[j]? = some d → L.contains (i + j) = false → (∀ x ∈ d, L.contains x = true) → i + j ∈ nxt ds i L
  | [], i, j, L, d, h, _, _ => by simp at h
  | d' :: ds, i, j, L, d, h, h1, h2 => by
    unfold nxt
    cases j with
    | zero =>
      simp only [List.getElem?_cons_zero, Option.some.injEq] at h
      subst h
      rw [if_pos ⟨h1, List.all_eq_true.2 h2⟩]
      simp
    | succ j =>
      have := nxt_mem (ds := ds) (i := i + 1) (j := j) (by simpa using h) (by rw [show i + 1 + j = i + (j + 1) by omega]; exact h1) h2
      rw [show i + 1 + j = i + (j + 1) by omega] at this
      split
      · exact List.mem_cons_of_mem _ this
      · exact this
def treeOk (ops : Array Oper) (m : Nat) (ds : List (List Nat)) : Bool :=
  let cl := clM ops.toList []
  Nat.ble m ops.size && ds.length == m && cl.length == ops.size &&
  ((List.range ops.size).all fun i => match ops[i]? with
    | some o => o.after.toList.all fun e => !Region.binds .any e || Nat.blt e.on i
    | none => false) &&
  ((List.range m).all fun i => match ops[i]? with
    | some o => (ds.getD i []).all fun d => o.after.toList.any fun e => Region.binds .any e && e.on == d
    | none => false) &&
  ((List.range ops.size).all fun i => Nat.blt i m || (List.range i).all (has cl i))
def TrQ (P : Program) (N pin : Nat) (Q : AQ) (all : Array Oper) (ds : List (List Nat)) (J : AEnv → AHeap → Prop) : Nat → List Nat → AEnv → AHeap → Prop
  | 0, _, e, h => J e h
  | n + 1, L, e, h => ∀ i ∈ nxt ds 0 L, ∃ o, all[i]? = some o ∧ VcZ true P N pin Q [.ops all [o], .back (TrQ P N pin Q all ds J n (i :: L))] e h
def allF (l : List Nat) (F : Nat → Prop) : Prop := match l with
  | [] => True
  | i :: r => F i ∧ allF r F
theorem allF_mem {F : Nat → Prop} : ∀ {l : List Nat}, allF l F → ∀ i ∈ l, F i
  | i :: r, h, j, hj => by
    rcases List.mem_cons.1 hj with e | e
    · subst e; exact h.1
    · exact allF_mem h.2 j e
section
variable {P : Program} {N pin m : Nat} {Q : AQ}
theorem tr_step {l : List Oper} {ds : List (List Nat)} {J : AEnv → AHeap → Prop} {n : Nat} {L : List Nat} {e : AEnv} {h : AHeap} (r : List Nat) (hr : nxt ds 0 L = r)
    (hs : allF r fun i => ∃ o, l[i]? = some o ∧ VcZ true P N pin Q [.ops l.toArray [o], .back (TrQ P N pin Q l.toArray ds J n (i :: L))] e h) : TrQ P N pin Q l.toArray ds J (n + 1) L e h := by
  intro i hi
  rw [hr] at hi
  obtain ⟨o, h1, h2⟩ := allF_mem hs i hi
  exact ⟨o, by simpa using h1, h2⟩
theorem tr_sound {ops : Array Oper} {ds : List (List Nat)} {J : AEnv → AHeap → Prop} {k : List It} (hc : treeOk ops m ds = true) (hJ : ∀ e h, J e h → SemL P N pin ops (ops.toList.drop m) (After P N pin Q k) e h) {cx : Cx} :
    ∀ (n fuel : Nat) (listed : Array Bool) (L : List Nat) (e : AEnv) (h : AHeap) (a : Act) (w : World) (ι : Nat → Nat × Nat) (I : Nat → Prop), listed.size = ops.size → cnt listed ≤ fuel → (∀ i, i ∈ L ↔ listed.getD i false = true) → (∀ i ∈ L, i < m) → L.Nodup → L.length + n = m →
      (∀ (i : Nat) (o : Oper), ops[i]? = some o → listed.getD i false = true → ∀ e ∈ o.after, Region.binds .any e = true → listed.getD e.on false = true) → At N pin cx e h a w ι I → TrQ P N pin Q ops ds J n L e h → wpAny P .any ops (QR N pin cx (After P N pin Q k)) fuel listed a w := by
  simp only [treeOk, Bool.and_eq_true, List.all_eq_true, List.mem_range, Nat.ble_eq, beq_iff_eq] at hc
  obtain ⟨⟨⟨⟨⟨hle, hdl⟩, hcl⟩, hfw⟩, hds⟩, htl⟩ := hc
  have hfwd : ∀ (i : Nat) (o : Oper), ops[i]? = some o → ∀ e ∈ o.after, Region.binds .any e = true → e.on < i := by
    intro i o ho e he hb
    have hi : i < ops.size := (Array.getElem?_eq_some_iff.1 ho).1
    have := hfw i hi
    simp only [ho, List.all_eq_true] at this
    have k := this e (by simpa using he)
    simpa [hb, Nat.blt_eq] using k
  have htail : ∀ i j : Nat, m ≤ i → i < ops.size → j < i → has (clM ops.toList []) i j = true := by
    intro i j hn hi hj
    have k := htl i hi
    simp only [Bool.or_eq_true, Nat.blt_eq, List.all_eq_true, List.mem_range] at k
    rcases k with k | k
    · omega
    · exact k j hj
  intro n
  induction n with
  | zero =>
    intro fuel listed L e h a w ι I hs hcnt hL hLm hnd hlen hdn hA hT
    have hall : ∀ j, j < m → listed.getD j false = true := by
      intro j hj
      rw [← hL]
      -- L has m different numbers below m
      refine Classical.byContradiction fun hn => ?_
      have hsub : (j :: L).Nodup := List.nodup_cons.2 ⟨hn, hnd⟩
      have hlt : ∀ x ∈ j :: L, x < m := fun x hx => by
        rcases List.mem_cons.1 hx with e | e
        · subst e; exact hj
        · exact hLm x e
      have : (j :: L).length ≤ (List.range m).length := List.Nodup.length_le_of_subset hsub (fun x hx => List.mem_range.2 (hlt x hx))
      simp at this
      omega
    refine tail_seq hfwd htail fuel listed m a w hs hcnt hle (Nat.le_refl _) (fun j hj => ⟨fun q => ?_, fun q => hall j q⟩) hdn (hJ e h hT cx a w ι I hA)
    exact hLm j ((hL j).2 q)
  | succ n ih =>
    intro fuel listed L e h a w ι I hs hcnt hL hLm hnd hlen hdn hA hT
    have hex : ∃ j, j < m ∧ listed.getD j false = false := by
      refine Classical.byContradiction fun hn => ?_
      have : ∀ j, j < m → j ∈ L := fun j hj => (hL j).2 (by
        cases hx : listed.getD j false with
        | true => rfl
        | false => exact absurd ⟨j, hj, hx⟩ hn)
      have : (List.range m).length ≤ L.length := List.Nodup.length_le_of_subset List.nodup_range (fun x hx => this x (List.mem_range.1 hx))
      simp at this
      omega
    obtain ⟨j0, hj0, hf0⟩ := hex
    have hpos : 0 < cnt listed := by
      rcases Nat.eq_zero_or_pos (cnt listed) with q | q
      · have := cnt_zero q (i := j0) (by omega)
        rw [hf0] at this; cases this
      · exact q
    obtain ⟨fuel', rfl⟩ : ∃ f, fuel = f + 1 := ⟨fuel - 1, by omega⟩
    refine ⟨fun hr => ?_, fun i hi => ?_⟩
    · have := ready_nil hfwd hs hr (i := j0) (by omega)
      rw [hf0] at this; cases this
    · rw [mem_ready] at hi
      obtain ⟨h1, o, h2, h3⟩ := hi
      have hin := (Array.getElem?_eq_some_iff.1 h2).1
      rw [getD_def (by rw [hs]; exact hin) true false] at h1
      have him : i < m := by
        rcases Nat.lt_or_ge i m with q | q
        · exact q
        · have := has_listed (L := fun j => listed.getD j false = true) hdn i o h2 h3 j0 (htail i j0 q hin (by omega))
          rw [hf0] at this; cases this
      have hnx : i ∈ nxt ds 0 L := by
        have hd : ds[i]? = some (ds.getD i []) := by
          rw [List.getD_eq_getElem?_getD, List.getElem?_eq_getElem (by omega)]; rfl
        have := nxt_mem (ds := ds) (i := 0) (j := i) (L := L) hd (by
          rw [Nat.zero_add]
          cases hx : L.contains i with
          | false => rfl
          | true =>
            have := (hL i).1 (by simpa using hx)
            rw [h1] at this; cases this) (fun x hx => by
          have q := hds i him
          simp only [h2, List.all_eq_true, List.any_eq_true, Bool.and_eq_true, beq_iff_eq] at q
          obtain ⟨ed, q1, q2, q3⟩ := q x hx
          have := h3 ed (by simpa using q1) q2
          rw [q3] at this
          simpa using (hL x).2 this)
        rwa [Nat.zero_add] at this
      obtain ⟨o', h4, h5⟩ := hT i hnx
      rw [h2] at h4
      cases h4
      have hA5 := Vc.sound h5
      simp only [After] at hA5
      have hw := hA5 cx a w ι I hA
      have hsz : i < listed.size := by omega
      have next : ∀ a' w', QR N pin cx (After P N pin Q [.back (TrQ P N pin Q ops ds J n (i :: L))]) .normal a' w' → wpAny P .any ops (QR N pin cx (After P N pin Q k)) fuel' (listed.setIfInBounds i true) a' w' := by
        rintro a' w' ⟨ι', I', e', h', q1, q2⟩
        simp only [After] at q2
        have hset : ∀ j, (listed.setIfInBounds i true).getD j false = (if j = i then true else listed.getD j false) := fun j => getD_set hsz
        refine ih fuel' (listed.setIfInBounds i true) (i :: L) e' h' a' w' ι' I' (by simp [hs]) (by have := cnt_set hsz h1; omega) (fun j => ?_) (fun j hj => ?_) ?_ (by simp; omega) (fun j oj hj hl ed hed hb => ?_) q1 q2
        · rw [hset, List.mem_cons, hL j]
          split
          · rename_i q; simp [q]
          · rename_i q; simp [q]
        · rcases List.mem_cons.1 hj with q | q
          · omega
          · exact hLm j q
        · refine List.nodup_cons.2 ⟨fun q => ?_, hnd⟩
          rw [(hL i).1 q] at h1; cases h1
        · rw [hset] at hl ⊢
          split
          · rfl
          · split at hl
            · rename_i q; subst q
              rw [h2] at hj; cases hj
              exact h3 ed hed hb
            · exact hdn j oj hj hl ed hed hb
      have outp : ∀ ch a' w', QR N pin cx (After P N pin Q [.back (TrQ P N pin Q ops ds J n (i :: L))]) (.panic ch) a' w' → QR N pin cx (After P N pin Q k) (.panic ch) a' w' := by
        intro ch a' w' q
        obtain ⟨ι', I', e', h', p, v, q0, q1, q2, q3⟩ := q
        exact ⟨ι', I', e', h', p, v, q0, q1, q2, by rw [After_pan] at q3 ⊢; exact q3⟩
      unfold wpOp
      simp only [h2]
      unfold wpList at hw
      split at hw
      · rename_i hwt
        rw [if_pos hwt]
        rcases hw with hw | ⟨_, _, _, hf⟩
        · left
          unfold Oper.wp at *
          generalize (execOp a.eval o).run P w = r at *
          cases r with
          | ok nn w' =>
            cases nn <;> simp only [Oper.upon] at hw ⊢ <;>
              first
                | exact next _ _ hw
                | exact Calls.mono hw (fun en w'' he => by
                    cases en with
                    | returned v => exact next _ _ he
                    | panicked ch => exact outp _ _ _ he
                    | outgrown => obtain ⟨_, _, hf⟩ := he; exact hf.elim)
                | exact Rows.mono hw (fun _ _ he => next _ _ he)
          | halt x w' => cases x <;> simp only [Oper.upon] at hw ⊢ <;> first | exact outp _ _ _ hw | exact hw
        · exact hf.elim
      · rename_i hwt
        rw [if_neg hwt]
        exact next _ _ hw
theorem vz_tree {l : List Oper} {id : Nat} {k : List It} {e : AEnv} {h : AHeap} (m : Nat) (ds : List (List Nat)) (hm : P.follows .mixedOrders = true) (hc : treeOk l.toArray m ds = true) (J : AEnv → AHeap → Prop)
    (h1 : TrQ P N pin Q l.toArray ds J m [] e h) (h2 : ∀ e h, J e h → VcZ true P N pin Q (.ops l.toArray (l.drop m) :: k) e h) : VcZ true P N pin Q (.code (.region id l.toArray true) :: k) e h := by
  refine Vc.stop rfl ?_
  simp only [After]
  intro cx a w ι I hA
  refine wp_region_any hm ?_
  refine tr_sound hc (fun e h hJ => ?_) m _ _ [] e h _ _ ι I (by simp) (by unfold cnt; exact Nat.le_trans List.countP_le_length (by simp)) (fun i => ?_) (by simp) List.nodup_nil (by simp) (fun i o _ hl => ?_) (hA.drawn (w.drawn + 1) (Nat.le_succ _)) h1
  · have := Vc.sound (h2 e h hJ)
    simpa only [After] using this
  · simp only [List.not_mem_nil, false_iff, Array.getD_eq_getD_getElem?, Array.getElem?_replicate]
    split <;> simp
  · simp only [Array.getD_eq_getD_getElem?, Array.getElem?_replicate] at hl
    split at hl <;> simp at hl
theorem nxt_inv : ∀ {ds : List (List Nat)} {k i : Nat} {L : List Nat}, i ∈ nxt ds k L → ∃ j d, i = k + j ∧ ds[j]? = some d ∧ i ∉ L ∧ ∀ x ∈ d, x ∈ L
  | [], k, i, L, h => by simp [nxt] at h
  | d :: ds, k, i, L, h => by
    have rec' : i ∈ nxt ds (k + 1) L → ∃ j d', i = k + j ∧ (d :: ds)[j]? = some d' ∧ i ∉ L ∧ ∀ x ∈ d', x ∈ L := fun q => by
      obtain ⟨j, d', q1, q2, q3, q4⟩ := nxt_inv q
      exact ⟨j + 1, d', by omega, by simpa using q2, q3, q4⟩
    unfold nxt at h
    split at h
    · rename_i hc
      rcases List.mem_cons.1 h with q | q
      · subst q
        exact ⟨0, d, by omega, rfl, fun hm => by simp [hm] at hc, fun x hx => by have := List.all_eq_true.1 hc.2 x hx; simpa using this⟩
      · exact rec' q
    · exact rec' h
theorem tr_of_inv {l : List Oper} {ds : List (List Nat)} {J : AEnv → AHeap → Prop} (I : List Nat → AEnv → AHeap → Prop) (hd : ds.length = m)
    (hstep : ∀ i, i < m → ∀ L e h, i ∉ L → (∀ d ∈ ds.getD i [], d ∈ L) → I L e h → ∃ o, l[i]? = some o ∧ VcZ true P N pin Q [.ops l.toArray [o], .back (I (i :: L))] e h)
    (hend : ∀ L e h, (∀ j, j < m → j ∈ L) → I L e h → J e h) : ∀ (n : Nat) (L : List Nat) (e : AEnv) (h : AHeap), L.length + n = m → L.Nodup → (∀ x ∈ L, x < m) → I L e h → TrQ P N pin Q l.toArray ds J n L e h
  | 0, L, e, h, hl, hnd, hm, hI => by
    refine hend L e h (fun j hj => Classical.byContradiction fun hn => ?_) hI
    have hsub : (j :: L).Nodup := List.nodup_cons.2 ⟨hn, hnd⟩
    have : (j :: L).length ≤ (List.range m).length := List.Nodup.length_le_of_subset hsub (fun x hx => List.mem_range.2 (by
      rcases List.mem_cons.1 hx with e | e
      · subst e; exact hj
      · exact hm x e))
    simp at this
    omega
  | n + 1, L, e, h, hl, hnd, hm, hI => by
    intro i hi
    obtain ⟨j, d, q1, q2, q3, q4⟩ := nxt_inv hi
    have hij : i = j := by omega
    subst hij
    have him : i < m := by have := (List.getElem?_eq_some_iff.1 q2).1; omega
    obtain ⟨o, ho, hv⟩ := hstep i him L e h q3 (by rw [List.getD_eq_getElem?_getD, q2]; exact q4) hI
    refine ⟨o, by simpa using ho, ?_⟩
    have key : ∀ e h, I (i :: L) e h → TrQ P N pin Q l.toArray ds J n (i :: L) e h := fun e h hI' =>
      tr_of_inv I hd hstep hend n (i :: L) e h (by simp; omega) (List.nodup_cons.2 ⟨q3, hnd⟩) (fun x hx => by
        rcases List.mem_cons.1 hx with e | e
        · subst e; exact him
        · exact hm x e) hI'
    have R : Repl P N pin Q [.back (I (i :: L))] [.back (TrQ P N pin Q l.toArray ds J n (i :: L))] := by
      refine ⟨fun e h hv => ?_, fun x e h ha => ?_, fun id k' hp => hp⟩
      · rw [vc_back] at hv ⊢; exact key e h hv
      · cases x with
        | norm => simp only [After] at ha ⊢; exact key e h ha
        | exit id => simp only [After] at ha ⊢; exact ha
        | ret => simp only [After] at ha ⊢; exact ha
        | pan p => simp only [After] at ha ⊢; exact ha
    exact Vc.repl R hv [.ops l.toArray [o]] rfl
theorem vz_dag {l : List Oper} {id : Nat} {k : List It} {e : AEnv} {h : AHeap} (m : Nat) (ds : List (List Nat)) (hm : P.follows .mixedOrders = true) (hc : treeOk l.toArray m ds = true) (I : List Nat → AEnv → AHeap → Prop) (h0 : I [] e h)
    (hstep : ∀ i, i < m → ∀ L e h, i ∉ L → (∀ d ∈ ds.getD i [], d ∈ L) → I L e h → ∃ o, l[i]? = some o ∧ VcZ true P N pin Q [.ops l.toArray [o], .back (I (i :: L))] e h)
    (hend : ∀ L e h, (∀ j, j < m → j ∈ L) → I L e h → VcZ true P N pin Q (.ops l.toArray (l.drop m) :: k) e h) : VcZ true P N pin Q (.code (.region id l.toArray true) :: k) e h :=
  vz_tree (P := P) m ds hm hc (fun e h => ∃ L, (∀ j, j < m → j ∈ L) ∧ I L e h)
    (tr_of_inv I (by simp only [treeOk, Bool.and_eq_true, beq_iff_eq] at hc; exact hc.1.1.1.1.2) hstep (fun L e h hL hI => ⟨L, hL, hI⟩) m [] e h (by simp) List.nodup_nil (by simp) h0)
    (fun e h ⟨L, hL, hI⟩ => hend L e h hL hI)
end
end Go.Proofs.YtahamnipffckhaaDoor
