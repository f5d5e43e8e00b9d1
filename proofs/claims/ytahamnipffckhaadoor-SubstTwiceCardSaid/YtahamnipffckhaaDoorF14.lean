import Derived.Test.YtahamnipffckhaaDoorF13
set_option linter.unusedVariables false
set_option linter.unusedSimpArgs false
namespace Go.Proofs.YtahamnipffckhaaDoor
open Go Go.RowKit
/-! term.Names: sorted, each once. -/
def insN (x : ByteArray × Int) : List (ByteArray × Int) → List (ByteArray × Int)
  | [] => [x]
  | y :: r => if cmpN x y < 0 then x :: y :: r else if cmpN x y = 0 then y :: r else y :: insN x r
theorem ltN_of {x y : ByteArray × Int} (h1 : ¬ cmpN x y < 0) (h2 : ¬ cmpN x y = 0) : ltN y x := by
  rw [cmpN_neg] at h1
  rw [cmpN_zero] at h2
  exact ltN_tri h1 h2
theorem insN_mem {x z : ByteArray × Int} : ∀ {l : List (ByteArray × Int)}, z ∈ insN x l ↔ z = x ∨ z ∈ l
  | [] => by simp [insN]
  | y :: r => by
    simp only [insN]
    split
    · simp
    · split
      · rename_i h; rw [cmpN_zero] at h; subst h; simp
      · simp only [List.mem_cons, insN_mem (l := r)]
        constructor
        · rintro (h | h | h) <;> simp [h]
        · rintro (h | h | h) <;> simp [h]
theorem insN_sorted {x : ByteArray × Int} : ∀ {l : List (ByteArray × Int)}, l.Pairwise ltN → (insN x l).Pairwise ltN
  | [], _ => by simp [insN]
  | y :: r, h => by
    rw [List.pairwise_cons] at h
    simp only [insN]
    split
    · rename_i h1
      rw [cmpN_neg] at h1
      refine List.pairwise_cons.2 ⟨fun z hz => ?_, List.pairwise_cons.2 h⟩
      rcases List.mem_cons.1 hz with e | e
      · subst e; exact h1
      · exact ltN_trans h1 (h.1 z e)
    · split
      · exact List.pairwise_cons.2 h
      · rename_i h1 h2
        refine List.pairwise_cons.2 ⟨fun z hz => ?_, insN_sorted h.2⟩
        rcases insN_mem.1 hz with e | e
        · subst e; exact ltN_of h1 h2
        · exact h.1 z e
theorem sorted_uniq : ∀ {l m : List (ByteArray × Int)}, l.Pairwise ltN → m.Pairwise ltN → (∀ x, x ∈ l ↔ x ∈ m) → l = m
  | [], [], _, _, _ => rfl
  | [], y :: m, _, _, h => by have := (h y).2 (by simp); simp at this
  | x :: l, [], _, _, h => by have := (h x).1 (by simp); simp at this
  | x :: l, y :: m, h1, h2, h => by
    rw [List.pairwise_cons] at h1 h2
    have exy : x = y := by
      rcases List.mem_cons.1 ((h x).1 (by simp)) with e | e
      · exact e
      · rcases List.mem_cons.1 ((h y).2 (by simp)) with e' | e'
        · exact e'.symm
        · exact absurd (ltN_trans (h1.1 y e') (h2.1 x e)) (ltN_irrefl _)
    subst exy
    congr 1
    refine sorted_uniq h1.2 h2.2 fun z => ?_
    constructor
    · intro hz
      rcases List.mem_cons.1 ((h z).1 (by simp [hz])) with e | e
      · subst e; exact absurd (h1.1 z hz) (ltN_irrefl _)
      · exact e
    · intro hz
      rcases List.mem_cons.1 ((h z).2 (by simp [hz])) with e | e
      · subst e; exact absurd (h2.1 z hz) (ltN_irrefl _)
      · exact e
theorem cp_props : ∀ (rest acc : List (ByteArray × Int)), acc.Pairwise ltN → (acc ++ rest).Pairwise (fun a b => ¬ ltN b a) → (cp acc rest).Pairwise ltN ∧ ∀ x, x ∈ cp acc rest ↔ x ∈ acc ∨ x ∈ rest
  | [], acc, h1, h2 => by simp [cp, h1]
  | x :: r, acc, h1, h2 => by
    rw [cp]
    by_cases hl : acc.getLast? = some x
    · rw [if_pos hl]
      have hx : x ∈ acc := List.mem_of_getLast? hl
      have h3 : (acc ++ r).Pairwise (fun a b => ¬ ltN b a) := by
        refine List.Pairwise.sublist ?_ h2
        exact List.Sublist.append_left (List.sublist_cons_self x r) acc
      obtain ⟨k1, k2⟩ := cp_props r acc h1 h3
      refine ⟨k1, fun z => ?_⟩
      rw [k2 z, List.mem_cons]
      constructor
      · rintro (h | h) <;> simp [h]
      · rintro (h | h | h)
        · exact .inl h
        · subst h; exact .inl hx
        · exact .inr h
    · rw [if_neg hl]
      have h3 : ((acc ++ [x]) ++ r).Pairwise (fun a b => ¬ ltN b a) := by simpa using h2
      have h4 : (acc ++ [x]).Pairwise ltN := by
        rw [List.pairwise_append]
        refine ⟨h1, by simp, fun a ha b hb => ?_⟩
        simp only [List.mem_singleton] at hb
        subst hb
        have hna : ¬ ltN b a := by
          rw [List.pairwise_append] at h2
          exact h2.2.2 a ha b (by simp)
        by_cases e : b = a
        · exfalso
          subst e
          cases hg : acc.getLast? with
          | none => rw [List.getLast?_eq_none_iff] at hg; subst hg; simp at ha
          | some l =>
            have hlm : l ∈ acc := List.mem_of_getLast? hg
            have hnl : ¬ ltN b l := by
              rw [List.pairwise_append] at h2
              exact h2.2.2 l hlm b (by simp)
            obtain ⟨ys, hys⟩ := List.getLast?_eq_some_iff.1 hg
            rw [hys] at ha h1
            rcases List.mem_append.1 ha with q | q
            · rw [List.pairwise_append] at h1
              exact hnl (h1.2.2 b q l (by simp))
            · simp only [List.mem_singleton] at q
              subst q
              exact hl hg
        · exact ltN_tri hna e
      obtain ⟨k1, k2⟩ := cp_props r (acc ++ [x]) h4 h3
      refine ⟨k1, fun z => ?_⟩
      rw [k2 z]
      simp only [List.mem_append, List.mem_cons, List.not_mem_nil, or_false, or_assoc]
def namesT (t : Tm) : List (ByteArray × Int) := (nmT t).foldr insN []
theorem namesT_props (l : List (ByteArray × Int)) : (l.foldr insN []).Pairwise ltN ∧ ∀ x, x ∈ l.foldr insN [] ↔ x ∈ l := by
  induction l with
  | nil => simp
  | cons y r ih =>
    simp only [List.foldr_cons]
    exact ⟨insN_sorted ih.1, fun x => by rw [insN_mem, ih.2 x, List.mem_cons]⟩
theorem namesT_mem {t : Tm} {x : ByteArray × Int} : x ∈ namesT t ↔ x ∈ nmT t := (namesT_props _).2 x
theorem cp_names {t : Tm} {es : List (ByteArray × Int)} (hp : es.Perm (nmT t)) (hs : es.Pairwise (fun a b => ¬ ltN b a)) : cp [] es = namesT t := by
  obtain ⟨k1, k2⟩ := cp_props es [] List.Pairwise.nil (by simpa using hs)
  refine sorted_uniq k1 (namesT_props _).1 fun x => ?_
  rw [k2 x, namesT_mem]
  simp [hp.mem_iff]
def namesOf (t : Tm) : List (ByteArray × Int) := if (sortT t).2 = 0 then namesT t else []
theorem sortT_ok {t : Tm} (h : (sortT t).2 = 0) : t.size ≤ 2000 ∧ t.depth ≤ 100 ∧ rightB t 0 = true := by
  unfold sortT at h
  split at h
  · simp at h
  · split at h
    · rename_i h1 h2; exact ⟨by omega, by omega, h2⟩
    · simp at h
theorem CallZ.hwk {P : Program} {f : FuncId} {args : List AV} {h h' : AHeap} {K : Bool → CR → AHeap → Prop} (hw : HWk h h') (hc : CallZ P f args h' K) : CallZ P f args h K := CallK.hwk hw hc
set_option maxHeartbeats 1000000 in
theorem Names_pure (t : Tm) : Pure Tryd.prog 19 [t.pv] (.sl ((namesOf t).map entP)) := by
  refine pure_of Tryd.func19 rfl (by rfl) Tryd.ntmps19 Tryd.results19 (by simp) ?_
  generalize hres : namesOf t = res
  unfold namesOf at hres
  simp only [go_sem, List.range', reduceIte, Nat.reduceLT, Nat.reduceAdd, Nat.reduceSub, Nat.reduceMul, Nat.reduceEqDiff, reduceCtorEq, Nat.reduceLeDiff, Int.reduceLT, Int.reduceLE, Int.reduceEq, Int.reduceAdd, Int.reduceToNat, Int.reduceNeg, Int.reduceNegSucc, ↓vz_seq]
  refine Pure.call (Sort_pure t) (by first | (simp only [go_sem, List.range', reduceIte, Nat.reduceLT, Nat.reduceAdd, Nat.reduceSub, Nat.reduceMul, Nat.reduceEqDiff, reduceCtorEq, Nat.reduceLeDiff, Int.reduceLT, Int.reduceLE, Int.reduceEq, Int.reduceAdd, Int.reduceToNat, Int.reduceNeg, Int.reduceNegSucc, ↓vz_seq]; done) | (simp only [go_sem, List.range', reduceIte, Nat.reduceLT, Nat.reduceAdd, Nat.reduceSub, Nat.reduceMul, Nat.reduceEqDiff, reduceCtorEq, Nat.reduceLeDiff, Int.reduceLT, Int.reduceLE, Int.reduceEq, Int.reduceAdd, Int.reduceToNat, Int.reduceNeg, Int.reduceNegSucc, ↓vz_seq]; rfl)) ?_
  simp only [go_sem, List.range', reduceIte, Nat.reduceLT, Nat.reduceAdd, Nat.reduceSub, Nat.reduceMul, Nat.reduceEqDiff, reduceCtorEq, Nat.reduceLeDiff, Int.reduceLT, Int.reduceLE, Int.reduceEq, Int.reduceAdd, Int.reduceToNat, Int.reduceNeg, Int.reduceNegSucc, ↓vz_seq]
  refine brB_decN (fun h1 => ?_) (fun h1 => ?_)
  · rw [if_neg h1] at hres
    subst hres
    simp only [go_sem, List.range', reduceIte, Nat.reduceLT, Nat.reduceAdd, Nat.reduceSub, Nat.reduceMul, Nat.reduceEqDiff, reduceCtorEq, Nat.reduceLeDiff, Int.reduceLT, Int.reduceLE, Int.reduceEq, Int.reduceAdd, Int.reduceToNat, Int.reduceNeg, Int.reduceNegSucc, ↓vz_seq]
  rw [if_pos h1] at hres
  obtain ⟨hsz, hdp, _⟩ := sortT_ok h1
  have hnl := nmT_len t
  simp only [go_sem, List.range', reduceIte, Nat.reduceLT, Nat.reduceAdd, Nat.reduceSub, Nat.reduceMul, Nat.reduceEqDiff, reduceCtorEq, Nat.reduceLeDiff, Int.reduceLT, Int.reduceLE, Int.reduceEq, Int.reduceAdd, Int.reduceToNat, Int.reduceNeg, Int.reduceNegSucc, ↓vz_seq]
  refine CallZ.hwk (HWk.nil (i := 1) (j := 0) 52 5 rfl rfl) ?_
  refine FnK.callN (add_ref t.depth t [] (Nat.le_refl _) (by simp; omega)) [1, 2, 3] (by simp) (by simp) (by simp only [go_sem, List.range', reduceIte, Nat.reduceLT, Nat.reduceAdd, Nat.reduceSub, Nat.reduceMul, Nat.reduceEqDiff, reduceCtorEq, Nat.reduceLeDiff, Int.reduceLT, Int.reduceLE, Int.reduceEq, Int.reduceAdd, Int.reduceToNat, Int.reduceNeg, Int.reduceNegSucc, ↓vz_seq, okH, AObj.lt, AV.lt, AV.ltL]) (by simp [CR.lt, oltL, AObj.lt, AV.lt, AV.ltL]) (by first | (simp only [go_sem, List.range', reduceIte, Nat.reduceLT, Nat.reduceAdd, Nat.reduceSub, Nat.reduceMul, Nat.reduceEqDiff, reduceCtorEq, Nat.reduceLeDiff, Int.reduceLT, Int.reduceLE, Int.reduceEq, Int.reduceAdd, Int.reduceToNat, Int.reduceNeg, Int.reduceNegSucc, ↓vz_seq]; done) | (simp only [go_sem, List.range', reduceIte, Nat.reduceLT, Nat.reduceAdd, Nat.reduceSub, Nat.reduceMul, Nat.reduceEqDiff, reduceCtorEq, Nat.reduceLeDiff, Int.reduceLT, Int.reduceLE, Int.reduceEq, Int.reduceAdd, Int.reduceToNat, Int.reduceNeg, Int.reduceNegSucc, ↓vz_seq]; rfl)) ?_
  rintro r h'' ⟨rfl, rfl⟩
  simp only [go_sem, List.range', reduceIte, Nat.reduceLT, Nat.reduceAdd, Nat.reduceSub, Nat.reduceMul, Nat.reduceEqDiff, reduceCtorEq, Nat.reduceLeDiff, Int.reduceLT, Int.reduceLE, Int.reduceEq, Int.reduceAdd, Int.reduceToNat, Int.reduceNeg, Int.reduceNegSucc, ↓vz_seq]
  refine sort_call (es := nmT t) rfl fun es' hp hs => ?_
  have hcn := cp_names hp hs
  have hel : es'.length = (nmT t).length := hp.length_eq
  rw [← hel]
  simp only [go_sem, List.range', reduceIte, Nat.reduceLT, Nat.reduceAdd, Nat.reduceSub, Nat.reduceMul, Nat.reduceEqDiff, reduceCtorEq, Nat.reduceLeDiff, Int.reduceLT, Int.reduceLE, Int.reduceEq, Int.reduceAdd, Int.reduceToNat, Int.reduceNeg, Int.reduceNegSucc, ↓vz_seq]
  refine RefK.callH (compact_ref es' (by omega)) [5, 4] (by simp) (by simp only [go_sem, List.range', reduceIte, Nat.reduceLT, Nat.reduceAdd, Nat.reduceSub, Nat.reduceMul, Nat.reduceEqDiff, reduceCtorEq, Nat.reduceLeDiff, Int.reduceLT, Int.reduceLE, Int.reduceEq, Int.reduceAdd, Int.reduceToNat, Int.reduceNeg, Int.reduceNegSucc, ↓vz_seq, okH, AObj.lt, AV.lt, AV.ltL]) (by simp [CR.lt, oltL, AObj.lt, AV.lt, AV.ltL]) (by first | (simp only [go_sem, List.range', reduceIte, Nat.reduceLT, Nat.reduceAdd, Nat.reduceSub, Nat.reduceMul, Nat.reduceEqDiff, reduceCtorEq, Nat.reduceLeDiff, Int.reduceLT, Int.reduceLE, Int.reduceEq, Int.reduceAdd, Int.reduceToNat, Int.reduceNeg, Int.reduceNegSucc, ↓vz_seq]; done) | (simp only [go_sem, List.range', reduceIte, Nat.reduceLT, Nat.reduceAdd, Nat.reduceSub, Nat.reduceMul, Nat.reduceEqDiff, reduceCtorEq, Nat.reduceLeDiff, Int.reduceLT, Int.reduceLE, Int.reduceEq, Int.reduceAdd, Int.reduceToNat, Int.reduceNeg, Int.reduceNegSucc, ↓vz_seq]; rfl)) ?_
  rintro r hs ⟨rfl, rfl⟩
  refine ⟨(by simp [CR.lt, oltL, AObj.lt, AV.lt, AV.ltL]), (by simp [CR.lt, oltL, AObj.lt, AV.lt, AV.ltL]), ?_⟩
  rw [hcn, hres]
  simp only [go_sem, List.range', reduceIte, Nat.reduceLT, Nat.reduceAdd, Nat.reduceSub, Nat.reduceMul, Nat.reduceEqDiff, reduceCtorEq, Nat.reduceLeDiff, Int.reduceLT, Int.reduceLE, Int.reduceEq, Int.reduceAdd, Int.reduceToNat, Int.reduceNeg, Int.reduceNegSucc, ↓vz_seq, List.length_map, Nat.le_refl, List.take_length, List.take_of_length_le]
end Go.Proofs.YtahamnipffckhaaDoor
