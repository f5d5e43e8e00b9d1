import Derived.Test.YtahamnipffckhaaDoorF20
set_option linter.unusedVariables false
set_option linter.unusedSimpArgs false
namespace Go.Proofs.YtahamnipffckhaaDoor
open Go Go.RowKit
/-! What putter.put makes: the substitution itself, as long as it is not too large. -/
mutual
theorem pT_cnt (g : Tm → Option (Nat → Tm × Nat)) (hg : ∀ t f, g t = some f → ∀ c, (f c).2 = c + (f c).1.size) : ∀ (t : Tm) (c : Nat), (pT g t c).2 = c + (pT g t c).1.size
  | .mk op name n a, c => by
    rw [pT]
    split
    · rename_i f hf; exact hg _ f hf c
    · have := pL_cnt g hg a (c + 1)
      simp only [Tm.size]
      omega
theorem pL_cnt (g : Tm → Option (Nat → Tm × Nat)) (hg : ∀ t f, g t = some f → ∀ c, (f c).2 = c + (f c).1.size) : ∀ (a : List Tm) (c : Nat), (pL g a c).2 = c + Tm.sizeL (pL g a c).1
  | [], c => by simp [pL, Tm.sizeL]
  | x :: r, c => by
    rw [pL]
    split
    · simp [Tm.sizeL]
    · have h1 := pT_cnt g hg x c
      have h2 := pL_cnt g hg r (pT g x c).2
      simp only [Tm.sizeL]
      omega
end
/-! Copying. -/
mutual
theorem cp_is : ∀ (t : Tm) (c : Nat), (pT (fun _ => none) t c).2 ≤ 2000 → (pT (fun _ => none) t c).1 = t
  | .mk op name n a, c, h => by
    rw [pT] at h ⊢
    simp only at h ⊢
    rw [cpL_is a (c + 1) h]
theorem cpL_is : ∀ (a : List Tm) (c : Nat), (pL (fun _ => none) a c).2 ≤ 2000 → (pL (fun _ => none) a c).1 = a
  | [], c, _ => by rw [pL]
  | x :: r, c, h => by
    have hge := pL_ge (fun _ => none) (fun t f h => by cases h) (x :: r) c
    rw [pL] at h hge ⊢
    split
    · rename_i hc; rw [if_pos hc] at h; simp only at h; omega
    · rename_i hc
      rw [if_neg hc] at h hge
      simp only at h hge ⊢
      have h2 := pL_ge (fun _ => none) (fun t f h => by cases h) r (pT (fun _ => none) x c).2
      rw [cp_is x c (by omega), cpL_is r _ h]
end
mutual
def subT (w : ByteArray × Int → Option Tm) : Tm → Tm
  | .mk op name n a => match lk w (.mk op name n a) with
    | some to => to
    | none => .mk op name n (subL w a)
def subL (w : ByteArray × Int → Option Tm) : List Tm → List Tm
  | [] => []
  | x :: r => subT w x :: subL w r
end
theorem subT_eq (w : ByteArray × Int → Option Tm) (t : Tm) : subT w t = match lk w t with
    | some to => to
    | none => .mk t.op t.name t.n (subL w t.a) := by cases t; rw [subT]; rfl
mutual
theorem put_is (w : ByteArray × Int → Option Tm) : ∀ (t : Tm) (c : Nat), (pT (gB w true) t c).2 ≤ 2000 → (pT (gB w true) t c).1 = subT w t
  | .mk op name n a, c, h => by
    rw [pT] at h ⊢
    rw [subT]
    simp only [gB] at h ⊢
    cases hl : lk w (.mk op name n a) with
    | some to =>
      rw [hl] at h
      simp only [Option.map_some] at h ⊢
      exact cp_is to c h
    | none =>
      rw [hl] at h
      simp only [Option.map_none] at h ⊢
      rw [putL_is w a (c + 1) h]
theorem putL_is (w : ByteArray × Int → Option Tm) : ∀ (a : List Tm) (c : Nat), (pL (gB w true) a c).2 ≤ 2000 → (pL (gB w true) a c).1 = subL w a
  | [], c, _ => by rw [pL, subL]
  | x :: r, c, h => by
    rw [pL] at h ⊢
    rw [subL]
    split
    · rename_i hc; rw [if_pos hc] at h; simp only at h; omega
    · rename_i hc
      rw [if_neg hc] at h
      simp only at h ⊢
      have h2 := pL_ge (gB w true) (gB_ge w true) r (pT (gB w true) x c).2
      rw [put_is w x c (by omega), putL_is w r _ h]
end
theorem gB_cnt (w : ByteArray × Int → Option Tm) (b : Bool) (t : Tm) (f : Nat → Tm × Nat) (h : gB w b t = some f) (c : Nat) : (f c).2 = c + (f c).1.size := by
  cases b with
  | false => cases h
  | true =>
    simp only [gB, Option.map_eq_some_iff] at h
    obtain ⟨to, _, rfl⟩ := h
    exact pT_cnt _ (fun t f h => by cases h) to c
/-- What Put makes is the substitution, or it is too large. -/
theorem putOut_is (t : Tm) (l : List (ByteArray × Tm)) : putOut t l = subT (asc l) t ∨ 2000 < (putOut t l).size := by
  unfold putOut
  have hc := pT_cnt (gB (asc l) true) (gB_cnt (asc l) true) t 0
  rcases Nat.lt_or_ge 2000 (pT (gB (asc l) true) t 0).1.size with h | h
  · exact .inr h
  · exact .inl (put_is (asc l) t 0 (by omega))
mutual
theorem cp_fits : ∀ (t : Tm) (c : Nat), c + t.size ≤ 2000 → (pT (fun _ => none) t c).2 ≤ 2000
  | .mk op name n a, c, h => by
    rw [pT]
    simp only [Tm.size] at h ⊢
    exact cpL_fits a (c + 1) (by omega)
theorem cpL_fits : ∀ (a : List Tm) (c : Nat), c + Tm.sizeL a ≤ 2000 → (pL (fun _ => none) a c).2 ≤ 2000
  | [], c, h => by simp only [Tm.sizeL] at h; rw [pL]; simp only; omega
  | x :: r, c, h => by
    simp only [Tm.sizeL] at h
    rw [pL, if_neg (by omega)]
    have h1 := cp_fits x c (by omega)
    have h2 := cp_is x c h1
    have h3 := pT_cnt (fun _ => none) (fun t f h => by cases h) x c
    rw [h2] at h3
    exact cpL_fits r _ (by rw [h3]; omega)
end
mutual
theorem put_fits (w : ByteArray × Int → Option Tm) : ∀ (t : Tm) (c : Nat), c + (subT w t).size ≤ 2000 → (pT (gB w true) t c).2 ≤ 2000
  | .mk op name n a, c, h => by
    rw [pT]
    rw [subT] at h
    simp only [gB]
    cases hl : lk w (.mk op name n a) with
    | some to =>
      rw [hl] at h
      simp only [Option.map_some] at h ⊢
      exact cp_fits to c h
    | none =>
      rw [hl] at h
      simp only [Option.map_none, Tm.size] at h ⊢
      exact putL_fits w a (c + 1) (by omega)
theorem putL_fits (w : ByteArray × Int → Option Tm) : ∀ (a : List Tm) (c : Nat), c + Tm.sizeL (subL w a) ≤ 2000 → (pL (gB w true) a c).2 ≤ 2000
  | [], c, h => by simp only [subL, Tm.sizeL] at h; rw [pL]; simp only; omega
  | x :: r, c, h => by
    simp only [subL, Tm.sizeL] at h
    rw [pL, if_neg (by omega)]
    have h1 := put_fits w x c (by omega)
    have h2 := put_is w x c h1
    have h3 := pT_cnt (gB w true) (gB_cnt w true) x c
    rw [h2] at h3
    exact putL_fits w r _ (by rw [h3]; omega)
end
theorem putOut_fits {t : Tm} {l : List (ByteArray × Tm)} (h : (subT (asc l) t).size ≤ 2000) : putOut t l = subT (asc l) t :=
  put_is (asc l) t 0 (put_fits (asc l) t 0 (by omega))
theorem sortT_big {t : Tm} (h : 2000 < t.size) : sortT t = (0, 7) := by
  unfold sortT
  rw [if_pos (.inl h)]
/-! What is right stays right. -/
theorem right_iff {t : Tm} {s : Int} : rightB t s = true ↔ (1 ≤ t.op ∧ t.op ≤ 28) ∧ (s = 0 ∨ (shp t.op.toNat).sort = s) ∧ ((shp t.op.toNat).name = true → nameB t.name = true) ∧ ((shp t.op.toNat).name = false → t.name = ⟨#[]⟩) ∧
    ((shp t.op.toNat).number = false → t.n = 0) ∧ ((shp t.op.toNat).many = false → t.a.length = (shp t.op.toNat).a.length) ∧ rightL t.a (shp t.op.toNat) 0 = true := by
  rw [rightB_eq]
  generalize shp t.op.toNat = p
  unfold b4 b3 b2 b1
  by_cases h1 : t.op < 1 ∨ 28 < t.op
  · rw [if_pos h1]
    constructor
    · intro h; cases h
    · rintro ⟨h, _⟩; omega
  · rw [if_neg h1]
    have h2 : 1 ≤ t.op ∧ t.op ≤ 28 := by omega
    cases hn : p.name <;> cases hk : p.number <;> cases hm : p.many <;> simp [h2] <;> (constructor <;> intro h <;> simp_all <;> omega)
theorem var_shp : ∀ k : Nat, k < 29 → (shp k).name = true → (shp k).a = [] ∧ (shp k).number = false ∧ (shp k).many = false := by decide
theorem var_sort : ∀ j : Nat, j < 29 → ∀ k : Nat, k < 29 → (shp k).name = true → (shp j).name = true → (shp k).sort = (shp j).sort → k = j := by decide
/-- A right term with a name is a leaf. -/
theorem right_leaf {t : Tm} {s : Int} (h : rightB t s = true) (hn : t.name ≠ ⟨#[]⟩) : (shp t.op.toNat).name = true ∧ t.a = [] ∧ t.n = 0 := by
  obtain ⟨h1, _, _, h4, h5, h6, _⟩ := right_iff.1 h
  have hs : (shp t.op.toNat).name = true := by
    cases hx : (shp t.op.toNat).name with
    | true => rfl
    | false => exact absurd (h4 hx) hn
  obtain ⟨v1, v2, v3⟩ := var_shp t.op.toNat (by omega) hs
  exact ⟨hs, by have := h6 v3; rw [v1] at this; exact List.eq_nil_of_length_eq_zero this, h5 v2⟩
theorem sortT_right {t : Tm} {s : Int} (h : rightB t s = true) (h1 : t.size ≤ 2000) (h2 : t.depth ≤ 100) : sortT t = ((shp t.op.toNat).sort, 0) := by
  have h0 : rightB t 0 = true := by
    rw [right_iff] at h ⊢
    exact ⟨h.1, .inl rfl, h.2.2⟩
  unfold sortT
  rw [if_neg (by omega), if_pos h0]
def goodW (w : ByteArray × Int → Option Tm) : Prop := ∀ nm s to, w (nm, s) = some to → sortT to = (s, 0)
theorem sizeL_mem : ∀ {a : List Tm} {x : Tm}, x ∈ a → x.size ≤ Tm.sizeL a
  | y :: r, x, h => by
    simp only [Tm.sizeL]
    rcases List.mem_cons.1 h with q | q
    · subst q; omega
    · have := sizeL_mem q; omega
theorem subL_eq (w : ByteArray × Int → Option Tm) : ∀ a : List Tm, subL w a = a.map (subT w)
  | [] => by rw [subL]; rfl
  | x :: r => by rw [subL, subL_eq w r]; rfl
theorem sub_right {w : ByteArray × Int → Option Tm} (hw : goodW w) : ∀ (k : Nat) (t : Tm) (s : Int), t.depth ≤ k → t.size ≤ 2000 → t.depth ≤ 100 → rightB t s = true → rightB (subT w t) s = true
  | 0, t, s, hk, _, _, _ => by rw [Tm.depth_eq] at hk; omega
  | k + 1, t, s, hk, hsz, hdp, h => by
    rw [subT_eq]
    cases hl : lk w t with
    | some to =>
      simp only
      have hn : t.name ≠ ⟨#[]⟩ := fun e => by simp [lk, e] at hl
      rw [lk, if_neg hn] at hl
      have hg := hw _ _ _ hl
      have hs := sortT_right h hsz hdp
      rw [hs] at hg
      obtain ⟨g1, g2, g3⟩ := sortT_ok (t := to) (by rw [hg])
      have hs2 := sortT_right g3 g1 g2
      rw [hs2] at hg
      have he : (shp to.op.toNat).sort = (shp t.op.toNat).sort := by simpa using congrArg Prod.fst hg
      rw [right_iff] at g3 h ⊢
      refine ⟨g3.1, ?_, g3.2.2⟩
      rcases h.2.1 with q | q
      · exact .inl q
      · exact .inr (he.trans q)
    | none =>
      simp only
      have h' := right_iff.1 h
      rw [right_iff]
      refine ⟨h'.1, h'.2.1, h'.2.2.1, h'.2.2.2.1, h'.2.2.2.2.1, ?_, ?_⟩
      · simp only [Tm.a, Tm.op, subL_eq, List.length_map]; exact h'.2.2.2.2.2.1
      · have key : ∀ (a : List Tm) (p : Shp) (i : Nat), (∀ x ∈ a, x ∈ t.a) → rightL a p i = true → rightL (subL w a) p i = true := by
          intro a
          induction a with
          | nil => intro p i _ hr; rw [subL]; exact hr
          | cons x r ih =>
            intro p i hm hr
            rw [subL]
            simp only [rightL, Bool.and_eq_true] at hr ⊢
            have hx := hm x (by simp)
            have hxs := Tm.size_lt hx
            have hxd := Tm.depth_lt hx
            exact ⟨sub_right hw k x _ (by omega) (by omega) (by omega) hr.1, ih p (i + 1) (fun y hy => hm y (by simp [hy])) hr.2⟩
        exact key t.a _ 0 (fun x hx => hx) h'.2.2.2.2.2.2
/-! Put, of what is not too deep; two puts. -/
theorem goodW_asc : ∀ l, goodW (asc l)
  | [], nm, s, to, h => by simp [asc] at h
  | x :: r, nm, s, to, h => by
    rw [asc] at h
    split at h
    · rename_i hc
      cases h
      obtain ⟨h1, h2⟩ := hc
      simp only [Prod.mk.injEq] at h2
      exact Prod.ext h2.2.symm h1
    · exact goodW_asc r nm s to h
theorem asc_mem : ∀ {l : List (ByteArray × Tm)} {k : ByteArray × Int} {to : Tm}, asc l k = some to → ∃ x ∈ l, x.2 = to
  | [], k, to, h => by simp [asc] at h
  | x :: r, k, to, h => by
    rw [asc] at h
    split at h
    · cases h; exact ⟨x, by simp, rfl⟩
    · obtain ⟨y, hy, e⟩ := asc_mem h; exact ⟨y, by simp [hy], e⟩
theorem sub_comp {w1 w2 w3 : ByteArray × Int → Option Tm} (h3 : ∀ k, w3 k = match w1 k with
    | some to => some (subT w2 to)
    | none => w2 k) : ∀ (k : Nat) (t : Tm) (s : Int), t.depth ≤ k → rightB t s = true → subT w2 (subT w1 t) = subT w3 t
  | 0, t, s, hk, _ => by rw [Tm.depth_eq] at hk; omega
  | k + 1, t, s, hk, h => by
    rw [subT_eq w1 t, subT_eq w3 t]
    by_cases hn : t.name = ⟨#[]⟩
    · have l1 : lk w1 t = none := by simp [lk, hn]
      have l3 : lk w3 t = none := by simp [lk, hn]
      rw [l1, l3]
      simp only
      rw [subT_eq w2]
      have l2 : lk w2 (.mk t.op t.name t.n (subL w1 t.a)) = none := if_pos hn
      rw [l2]
      simp only [Tm.op, Tm.name, Tm.n, Tm.a]
      congr 1
      have h7 := (right_iff.1 h).2.2.2.2.2.2
      have key : ∀ (a : List Tm) (p : Shp) (i : Nat), (∀ x ∈ a, x ∈ t.a) → rightL a p i = true → subL w2 (subL w1 a) = subL w3 a := by
        intro a
        induction a with
        | nil => intro p i _ _; simp only [subL]
        | cons x r ih =>
          intro p i hm hr
          simp only [rightL, Bool.and_eq_true] at hr
          have hxd := Tm.depth_lt (hm x (by simp))
          simp only [subL]
          rw [sub_comp h3 k x _ (by omega) hr.1, ih p (i + 1) (fun y hy => hm y (by simp [hy])) hr.2]
      exact key t.a _ 0 (fun x hx => hx) h7
    · have l3 : lk w3 t = w3 (t.name, (sortT t).1) := by rw [lk, if_neg hn]
      have l1 : lk w1 t = w1 (t.name, (sortT t).1) := by rw [lk, if_neg hn]
      rw [l3, l1, h3]
      cases hw : w1 (t.name, (sortT t).1) with
      | some to => simp only
      | none =>
        simp only
        obtain ⟨_, ha, _⟩ := right_leaf h hn
        have ht : (Tm.mk t.op t.name t.n (subL w1 t.a)) = t := by
          rw [ha, subL]
          obtain ⟨op, nm, n, a⟩ := t
          simp only [Tm.a] at ha
          subst ha
          rfl
        rw [ht, subT_eq w2 t]
        have l2 : lk w2 t = w2 (t.name, (sortT t).1) := by rw [lk, if_neg hn]
        rw [l2]
        cases w2 (t.name, (sortT t).1) with
        | some to => rfl
        | none => simp only [ha, subL]
theorem depthL_le {D : Nat} : ∀ {a : List Tm}, (∀ x ∈ a, x.depth ≤ D) → Tm.depthL a ≤ D
  | [], _ => by simp [Tm.depthL]
  | x :: r, h => by
    simp only [Tm.depthL]
    have h1 := h x (by simp)
    have h2 := depthL_le (a := r) fun y hy => h y (by simp [hy])
    omega
theorem sub_depth {w : ByteArray × Int → Option Tm} {D : Nat} (hw : ∀ k to, w k = some to → to.depth ≤ D) : ∀ (k : Nat) (t : Tm), t.depth ≤ k → (subT w t).depth ≤ t.depth + D
  | 0, t, hk => by rw [Tm.depth_eq] at hk; omega
  | k + 1, t, hk => by
    rw [subT_eq]
    cases hl : lk w t with
    | some to =>
      simp only
      unfold lk at hl
      split at hl
      · cases hl
      · have := hw _ _ hl; omega
    | none =>
      simp only
      rw [Tm.depth_eq, Tm.depth_eq t, subL_eq]
      show Tm.depthL (t.a.map (subT w)) + 1 ≤ Tm.depthL t.a + 1 + D
      have : Tm.depthL (t.a.map (subT w)) ≤ Tm.depthL t.a + D := by
        refine depthL_le fun x hx => ?_
        obtain ⟨y, hy, rfl⟩ := List.mem_map.1 hx
        have h1 := Tm.depth_lt hy
        have h2 := sub_depth hw k y (by omega)
        have h3 : y.depth ≤ Tm.depthL t.a := by
          rw [Tm.depth_eq t] at h1; omega
        omega
      omega
/-- Put of a right term that is not too deep: the substitution, or 'too large'. -/
theorem putTop_is {t : Tm} {l : List (ByteArray × Tm)} {D : Nat} (ht : (sortT t).2 = 0) (hl : fstErr l = 0) (hD : ∀ x ∈ l, x.2.depth ≤ D) (hd : t.depth + D ≤ 100) :
    (putTop t l = (subT (asc l) t, 0) ∧ (subT (asc l) t).size ≤ 2000) ∨ (putTop t l = (zTm, 7)) := by
  unfold putTop
  rw [if_pos ht, if_pos hl]
  rcases putOut_is t l with h | h
  · rcases Nat.lt_or_ge 2000 (subT (asc l) t).size with hz | hz
    · right
      rw [h, sortT_big hz]
      rfl
    · left
      obtain ⟨g1, g2, g3⟩ := sortT_ok ht
      have hr := sub_right (goodW_asc l) t.depth t 0 (Nat.le_refl _) g1 g2 g3
      have hdp := sub_depth (w := asc l) (D := D) (fun k to hk => by obtain ⟨x, hx, rfl⟩ := asc_mem hk; exact hD x hx) t.depth t (Nat.le_refl _)
      have hs := sortT_right hr hz (by omega)
      rw [h, hs]
      exact ⟨rfl, hz⟩
  · right
    rw [sortT_big h]
    rfl
theorem putTop_fits {t : Tm} {l : List (ByteArray × Tm)} {D : Nat} (ht : (sortT t).2 = 0) (hl : fstErr l = 0) (hD : ∀ x ∈ l, x.2.depth ≤ D) (hd : t.depth + D ≤ 100) (hz : (subT (asc l) t).size ≤ 2000) : putTop t l = (subT (asc l) t, 0) := by
  unfold putTop
  rw [if_pos ht, if_pos hl, putOut_fits hz]
  obtain ⟨g1, g2, g3⟩ := sortT_ok ht
  have hr := sub_right (goodW_asc l) t.depth t 0 (Nat.le_refl _) g1 g2 g3
  have hdp := sub_depth (w := asc l) (D := D) (fun k to hk => by obtain ⟨x, hx, rfl⟩ := asc_mem hk; exact hD x hx) t.depth t (Nat.le_refl _)
  rw [sortT_right hr hz (by omega)]
  rfl
end Go.Proofs.YtahamnipffckhaaDoor
