import Derived.Test.YtahamnipffckhaaDoorF19
set_option linter.unusedVariables false
set_option linter.unusedSimpArgs false
namespace Go.Proofs.YtahamnipffckhaaDoor
open Go Go.RowKit
/-! The plain law of SubstFresh. -/
theorem dw_all {α : Type} {p : α → Bool} : ∀ {l : List α}, (∀ x ∈ l.dropWhile p, p x = true) → ∀ x ∈ l, p x = true
  | [], _, x, hx => by cases hx
  | a :: l, h, x, hx => by
    by_cases ha : p a = true
    · rw [List.dropWhile_cons_of_pos ha] at h
      rcases List.mem_cons.1 hx with e | e
      · subst e; exact ha
      · exact dw_all h x e
    · rw [List.dropWhile_cons_of_neg ha] at h
      exact absurd (h a (by simp)) ha
theorem dw_nil {α : Type} {p : α → Bool} {l : List α} : l.dropWhile p = [] ↔ ∀ x ∈ l, p x = true := by
  constructor
  · intro h; exact dw_all (by rw [h]; simp)
  · intro h
    induction l with
    | nil => rfl
    | cons a l ih => rw [List.dropWhile_cons_of_pos (h a (by simp))]; exact ih fun x hx => h x (by simp [hx])
theorem trimS_nil {s cut : List UInt8} : Lib.trimS s cut = [] ↔ ∀ b ∈ s, b ∈ cut := by
  unfold Lib.trimS Lib.trimLeftS Lib.trimRightS
  rw [dw_nil]
  constructor
  · intro h b hb
    have := dw_all (l := s.reverse) (p := (cut.contains ·)) (fun x hx => h x (by simpa using hx)) b (by simpa using hb)
    simpa using this
  · intro h x hx
    have : x ∈ s.reverse := (List.dropWhile_sublist _).subset (by simpa using hx)
    simpa using h x (by simpa using this)
theorem nameB_iff {s : ByteArray} : nameB s = true ↔ s.size ≤ 16 ∧ (∃ b, s.data.toList[0]? = some b ∧ 0 ≤ Lib.indexByte letters.data.toList b) ∧ ∀ x ∈ s.data.toList, x ∈ signs.data.toList := by
  unfold nameB
  have hn : ∀ l : List UInt8, ((⟨l.toArray⟩ : ByteArray) = ⟨#[]⟩) ↔ l = [] := fun l => by
    constructor
    · intro h; have := congrArg (fun b => b.data.toList) h; simpa using this
    · rintro rfl; rfl
  split
  · rename_i b hb
    simp only [Bool.and_eq_true, decide_eq_true_eq, hn, trimS_nil]
    constructor
    · rintro ⟨⟨h1, h2⟩, h3⟩; exact ⟨h1, ⟨b, hb, h2⟩, h3⟩
    · rintro ⟨h1, ⟨b', hb', h2⟩, h3⟩; rw [hb] at hb'; cases hb'; exact ⟨⟨h1, h2⟩, h3⟩
  · rename_i hb
    constructor
    · intro h; cases h
    · rintro ⟨_, ⟨b, h, _⟩, _⟩; rw [hb] at h; cases h
theorem isX_name (nm : ByteArray) : nameB (isX nm) = true := by
  unfold isX
  split
  · assumption
  · kernel_rfl
theorem ba_size (s : ByteArray) : s.size = s.data.toList.length := (Array.length_toList (xs := s.data)).symm
theorem toList_nextN (nm : ByteArray) (k : Nat) : (nextN nm k).data.toList = nm.data.toList.take 13 ++ 95 :: Lib.decDigits k := by
  unfold nextN
  simp only [ByteArray.data_append, Array.toList_append, ByteArray.data_extract, Array.toList_extract]
  simp only [List.extract_eq_take_drop, Nat.sub_zero, List.drop_zero, List.append_assoc, List.cons_append, List.nil_append]
  congr 1
  have : nm.size = nm.data.toList.length := ba_size nm
  rw [this]
  rcases Nat.le_total nm.data.toList.length 13 with h | h
  · rw [Nat.min_eq_left h, List.take_length, List.take_of_length_le h]
  · rw [Nat.min_eq_right h]
theorem digs_signs {k : Nat} (h : k < 100) : ∀ x ∈ Lib.decDigits k, x ∈ signs.data.toList := by
  have hd : ∀ i, i < 10 → UInt8.ofNat (48 + i) ∈ signs.data.toList := by decide
  by_cases h1 : k < 10
  · rw [Lib.decDigits_one h1]
    intro x hx
    simp only [List.mem_singleton] at hx
    subst hx
    exact hd k h1
  · rw [Lib.decDigits_two h1 h]
    intro x hx
    simp only [List.mem_cons, List.not_mem_nil, or_false] at hx
    rcases hx with e | e <;> subst e <;> exact hd _ (by omega)
theorem digs_inj {j k : Nat} (hj : j < 100) (hk : k < 100) (h : Lib.decDigits j = Lib.decDigits k) : j = k := by
  have hu : ∀ a b : Nat, a < 10 → b < 10 → UInt8.ofNat (48 + a) = UInt8.ofNat (48 + b) → a = b := by
    intro a b ha hb e
    have := congrArg UInt8.toNat e
    simp only [UInt8.toNat_ofNat'] at this
    omega
  by_cases h1 : j < 10 <;> by_cases h2 : k < 10
  · rw [Lib.decDigits_one h1, Lib.decDigits_one h2] at h
    exact hu j k h1 h2 (by simpa using h)
  · rw [Lib.decDigits_one h1, Lib.decDigits_two h2 hk] at h
    simp at h
  · rw [Lib.decDigits_two h1 hj, Lib.decDigits_one h2] at h
    simp at h
  · rw [Lib.decDigits_two h1 hj, Lib.decDigits_two h2 hk] at h
    simp only [List.cons.injEq, and_true] at h
    have := hu _ _ (by omega) (by omega) h.1
    have := hu _ _ (by omega) (by omega) h.2
    omega
theorem nextN_inj {nm : ByteArray} {j k : Nat} (hj : j < 100) (hk : k < 100) (h : nextN nm j = nextN nm k) : j = k := by
  have := congrArg (fun b => b.data.toList) h
  simp only [toList_nextN, List.append_cancel_left_eq, List.cons.injEq, true_and] at this
  exact digs_inj hj hk this
theorem nextN_name {nm : ByteArray} {k : Nat} (hn : nameB nm = true) (hk : k < 100) : nameB (nextN nm k) = true := by
  rw [nameB_iff] at hn ⊢
  obtain ⟨h1, ⟨b, h2, h3⟩, h4⟩ := hn
  have hl := toList_nextN nm k
  have hsz := ba_size
  refine ⟨?_, ⟨b, ?_, h3⟩, ?_⟩
  · rw [hsz, hl]
    have := digs_len k hk
    have e : (⟨(Lib.decDigits k).toArray⟩ : ByteArray).size = (Lib.decDigits k).length := by simp [ByteArray.size]
    simp only [List.length_append, List.length_take, List.length_cons]
    omega
  · rw [hl, List.getElem?_append_left (by rw [List.length_take]; have := (List.getElem?_eq_some_iff.1 h2).1; omega), List.getElem?_take_of_lt (by omega)]
    exact h2
  · rw [hl]
    intro x hx
    simp only [List.mem_append, List.mem_cons] at hx
    rcases hx with q | q | q
    · exact h4 x (List.mem_of_mem_take q)
    · subst q; decide
    · exact digs_signs hk x q
theorem frL_is (tk : ByteArray → Bool) (nm : ByteArray) : ∀ (n k : Nat) (last : ByteArray), 0 < n → (∃ j, k ≤ j ∧ j < k + n ∧ frL tk nm n k last = nextN nm j ∧ (tk (nextN nm j) = false ∨ ∀ i, k ≤ i → i < k + n → tk (nextN nm i) = true))
  | n + 1, k, last, _ => by
    rw [frL]
    split
    · rename_i h
      cases n with
      | zero => rw [frL]; exact ⟨k, Nat.le_refl _, by omega, rfl, .inr fun i h1 h2 => by rw [show i = k by omega]; exact h⟩
      | succ n =>
        obtain ⟨j, h1, h2, h3, h4⟩ := frL_is tk nm (n + 1) (k + 1) (nextN nm k) (by omega)
        refine ⟨j, by omega, by omega, h3, h4.imp id fun q i i1 i2 => ?_⟩
        rcases Nat.lt_or_ge k i with e | e
        · exact q i e (by omega)
        · rw [show i = k by omega]; exact h
    · rename_i h
      exact ⟨k, Nat.le_refl _, by omega, rfl, .inl (by simpa using h)⟩
/-- A fresh name is the name itself, or one of a hundred like it. -/
theorem fresh_is (ts : List Tm) (nm : ByteArray) : (freshT ts nm = isX nm ∨ ∃ j, j < 100 ∧ freshT ts nm = nextN (isX nm) j) ∧
    ((∀ t ∈ ts, freeT t (freshT ts nm) = false) ∨ ∀ i, i < 100 → ∃ t ∈ ts, freeT t (nextN (isX nm) i) = true) := by
  unfold freshT freshL
  have htk : ∀ s, tkT ts (fun _ => false) s = ts.any fun t => freeT t s := fun s => by simp [tkT]
  split
  · obtain ⟨j, h1, h2, h3, h4⟩ := frL_is (tkT ts fun _ => false) (isX nm) 100 0 ⟨#[]⟩ (by omega)
    rw [h3]
    refine ⟨.inr ⟨j, by omega, rfl⟩, h4.imp (fun q t ht => ?_) fun q i hi => ?_⟩
    · rw [htk] at q
      cases hx : freeT t (nextN (isX nm) j) with
      | false => rfl
      | true => rw [List.any_eq_true.2 ⟨t, ht, hx⟩] at q; cases q
    · have := q i (by omega) (by omega)
      rw [htk, List.any_eq_true] at this
      exact this
  · rename_i h
    refine ⟨.inl rfl, .inl fun t ht => ?_⟩
    rw [htk] at h
    cases hx : freeT t (isX nm) with
    | false => rfl
    | true => exact absurd (List.any_eq_true.2 ⟨t, ht, hx⟩) h
theorem fresh_name (ts : List Tm) (nm : ByteArray) : nameB (freshT ts nm) = true := by
  rcases (fresh_is ts nm).1 with h | ⟨j, hj, h⟩
  · rw [h]; exact isX_name nm
  · rw [h]; exact nextN_name (isX_name nm) hj
def sumN (ts : List Tm) : Nat := (ts.map fun t => (namesOf t).length).sum
theorem fresh_free {ts : List Tm} {nm : ByteArray} (h : sumN ts < 100) : ∀ t ∈ ts, freeT t (freshT ts nm) = false := by
  rcases (fresh_is ts nm).2 with q | q
  · exact q
  · exfalso
    -- a hundred names that are all there
    let L := ts.flatMap fun t => (namesOf t).map (·.1)
    have hL : L.length = sumN ts := by simp [L, List.length_flatMap, sumN]
    have hnd : ((List.range 100).map (nextN (isX nm))).Nodup := by
      rw [List.nodup_iff_pairwise_ne, List.pairwise_map]
      refine List.Pairwise.imp_of_mem (fun {a b} ha hb hab e => ?_) (List.pairwise_lt_range (n := 100))
      have := nextN_inj (List.mem_range.1 ha) (List.mem_range.1 hb) e
      omega
    have hsub : ∀ x ∈ (List.range 100).map (nextN (isX nm)), x ∈ L := by
      intro x hx
      obtain ⟨i, hi, rfl⟩ := List.mem_map.1 hx
      obtain ⟨t, ht, hf⟩ := q i (List.mem_range.1 hi)
      unfold freeT at hf
      rw [List.any_eq_true] at hf
      obtain ⟨y, hy, he⟩ := hf
      exact List.mem_flatMap.2 ⟨t, ht, List.mem_map.2 ⟨y, hy, of_decide_eq_true he⟩⟩
    have := List.Nodup.length_le_of_subset hnd hsub
    simp at this
    omega
theorem fresh_size (ts : List Tm) (nm : ByteArray) : min (isX nm).size 13 ≤ (freshT ts nm).size := by
  have hsz := ba_size
  rcases (fresh_is ts nm).1 with h | ⟨j, hj, h⟩
  · rw [h]; exact Nat.min_le_left _ _
  · rw [h, hsz (nextN _ _), toList_nextN, hsz]
    simp only [List.length_append, List.length_take]
    omega
theorem fresh_head (ts : List Tm) (nm : ByteArray) : (freshT ts nm).extract 0 (min (isX nm).size 13) = (isX nm).extract 0 (min (isX nm).size 13) := by
  have hsz := ba_size
  rcases (fresh_is ts nm).1 with h | ⟨j, hj, h⟩
  · rw [h]
  · rw [h]
    apply ByteArray.ext
    apply Array.toList_inj.1
    simp only [ByteArray.data_extract, Array.toList_extract, List.extract_eq_take_drop, Nat.sub_zero, List.drop_zero, toList_nextN]
    rw [hsz]
    rw [List.take_append_of_le_length (by simp; omega), List.take_take, Nat.min_eq_left (by omega)]
end Go.Proofs.YtahamnipffckhaaDoor
