import Derived.Test.YtahamnipffckhaaDoorF3
import Derived.Test.YtahamnipffckhaaDoorSh
set_option linter.unusedVariables false
set_option linter.unusedSimpArgs false
namespace Go.Proofs.YtahamnipffckhaaDoor
open Go Go.RowKit
theorem pure_of_calls {P : Program} {f : FuncId} {ps : List PV} {r : PV} {args : Array Value} {u : Value} (he : Ent P f) (hv : ∀ w I vs, relL w I ps vs → vs.toArray = args) (hr : ∀ w I, rel w I r u)
    (hc : ∀ w, Calls P f args w fun e w' => e = .returned u ∧ Below w.heap.size w w' ∧ w.drawn ≤ w'.drawn) : Pure P f ps r := by
  refine ⟨he, fun G ι I w vs hI hr' hl => ?_⟩
  rw [hv w I vs (arelL_map_pv.2 hr')]
  refine (hc w).mono ?_
  rintro e w' ⟨rfl, hb, hd⟩
  obtain ⟨k1, k2⟩ := hI.grow (I' := I) hb hd (fun _ x => x) (fun _ x => .inl x)
  exact ⟨ι, I, .pv r, [], k1, k2, Nat.le_refl _, by simp only [arel]; exact hr w' I, trivial, rfl⟩
theorem indexByte_pure (s : ByteArray) (c : Int) : Pure Tryd.prog 58 [.str s, .int .u8 c] (.int .i64 (Lib.indexByte s.data.toList c.toNat.toUInt8)) :=
  pure_of_calls (ent_of Tryd.func58 rfl (by rfl)) (fun w I vs h => by simp only [relL, rel] at h; obtain ⟨_, _, rfl, rfl, _, _, rfl, rfl, rfl⟩ := h; rfl) (fun w I => by simp only [rel])
    (fun w => (Tryd.strings_IndexByte s c w).mono fun e w' ⟨h1, h2⟩ => ⟨h1, by rw [h2]; exact ⟨Below.refl _ _, Nat.le_refl _⟩⟩)
theorem trim_pure (s cut : ByteArray) (h0 : 0 < s.size) (h2 : 2 ≤ cut.size) (hs : s.size ≤ 9223372036854775807) (hcs : cut.size < 4294967281) (ha : cut.data.toList.all (fun b => decide (b.toNat < 128)) = true) : Pure Tryd.prog 59 [.str s, .str cut] (.str ⟨(Lib.trimS s.data.toList cut.data.toList).toArray⟩) :=
  pure_of_calls (u := .string ⟨(Lib.trimS s.data.toList cut.data.toList).toArray⟩) (ent_of Tryd.func59 rfl (by rfl)) (fun w I vs h => by simp only [relL, rel] at h; obtain ⟨_, _, rfl, rfl, _, _, rfl, rfl, rfl⟩ := h; rfl) (fun w I => by simp only [rel])
    (fun w => by
      have h116 : (Tryd.prog.info? (Tryd.lays160_ren.t 116)).map (fun i => (i.zero, i.size)) = some (some (.agg (Array.replicate 256 (.bool false))), 256) := by kernel_rfl
      refine (show Calls Tryd.prog 59 #[.string s, .string cut] w _ from Any.strings_Trim_set Tryd.lays160 (zero_of_info h116).1 (zero_of_info h116).2 s cut w h2 h0 hs hcs (ascii_of_all ha)).mono fun e w' ⟨h1, q, h3⟩ => ⟨h1, ?_, ?_⟩
      · rw [h3]
        have b := ((Below.refl w.heap.size w).alloc (Nat.le_refl _) (.cells (Lib.setCells cut.data.toList) (Tryd.lays160_ren.t 116))).alloc (by simp) (.cells (Lib.setCells cut.data.toList) (Tryd.lays160_ren.t 116))
        exact ⟨b.os, b.tape, b.output, b.size, b.block⟩
      · rw [h3]; exact Nat.le_add_right w.drawn q)
def letters : ByteArray := ⟨#[65, 66, 67, 68, 69, 70, 71, 72, 73, 74, 75, 76, 77, 78, 79, 80, 81, 82, 83, 84, 85, 86, 87, 88, 89, 90, 97, 98, 99, 100, 101, 102, 103, 104, 105, 106, 107, 108, 109, 110, 111, 112, 113, 114, 115, 116, 117, 118, 119, 120, 121, 122]⟩
def signs : ByteArray := ⟨#[65, 66, 67, 68, 69, 70, 71, 72, 73, 74, 75, 76, 77, 78, 79, 80, 81, 82, 83, 84, 85, 86, 87, 88, 89, 90, 97, 98, 99, 100, 101, 102, 103, 104, 105, 106, 107, 108, 109, 110, 111, 112, 113, 114, 115, 116, 117, 118, 119, 120, 121, 122, 48, 49, 50, 51, 52, 53, 54, 55, 56, 57, 95]⟩
/-- Is it a name? -/
def nameB (s : ByteArray) : Bool := match s.data.toList[0]? with
  | some b => decide (s.size ≤ 16) && decide (0 ≤ Lib.indexByte letters.data.toList b) && decide ((⟨(Lib.trimS s.data.toList signs.data.toList).toArray⟩ : ByteArray) = ⟨#[]⟩)
  | none => false
theorem Name_pure (s : ByteArray) : Pure Tryd.prog 22 [.str s] (.bool (nameB s)) := by
  refine pure_of Tryd.func22 rfl (by rfl) Tryd.ntmps22 Tryd.results22 (by simp) ?_
  obtain ⟨⟨l⟩⟩ := s
  cases l with
  | nil =>
    have h0 : ((⟨⟨[]⟩⟩ : ByteArray) = ⟨#[]⟩) = True := eq_true rfl
    simp only [go_sem, List.range', reduceIte, Nat.reduceLT, Nat.reduceAdd, Nat.reduceSub, Nat.reduceMul, Nat.reduceEqDiff, reduceCtorEq, Nat.reduceLeDiff, Int.reduceLT, Int.reduceLE, Int.reduceEq, Int.reduceAdd, Int.reduceToNat, Int.reduceNeg, Int.reduceNegSucc, ↓vz_seq, h0]
    rfl
  | cons b r =>
    have h0 : ((⟨⟨b :: r⟩⟩ : ByteArray) = ⟨#[]⟩) = False := eq_false (fun h => by cases h)
    have hb : (⟨⟨b :: r⟩⟩ : ByteArray)[0]? = some b := rfl
    have hn : nameB ⟨⟨b :: r⟩⟩ = (decide ((⟨⟨b :: r⟩⟩ : ByteArray).size ≤ 16) && decide (0 ≤ Lib.indexByte letters.data.toList b) && decide ((⟨(Lib.trimS (b :: r) signs.data.toList).toArray⟩ : ByteArray) = ⟨#[]⟩)) := rfl
    rw [hn]
    generalize hs : (⟨⟨b :: r⟩⟩ : ByteArray) = s at *
    have hd : s.data.toList = b :: r := by rw [← hs]
    simp only [go_sem, List.range', reduceIte, Nat.reduceLT, Nat.reduceAdd, Nat.reduceSub, Nat.reduceMul, Nat.reduceEqDiff, reduceCtorEq, Nat.reduceLeDiff, Int.reduceLT, Int.reduceLE, Int.reduceEq, Int.reduceAdd, Int.reduceToNat, Int.reduceNeg, Int.reduceNegSucc, ↓vz_seq, h0]
    refine brG_dec (fun h1 => ?_) (fun h1 => ?_)
    · have h1' : s.size ≤ 16 := by omega
      simp only [go_sem, List.range', reduceIte, Nat.reduceLT, Nat.reduceAdd, Nat.reduceSub, Nat.reduceMul, Nat.reduceEqDiff, reduceCtorEq, Nat.reduceLeDiff, Int.reduceLT, Int.reduceLE, Int.reduceEq, Int.reduceAdd, Int.reduceToNat, Int.reduceNeg, Int.reduceNegSucc, ↓vz_seq, h1, hb, Tryd.underlying9]
      refine Pure.call (indexByte_pure letters _) (by first | (simp only [go_sem, List.range', reduceIte, Nat.reduceLT, Nat.reduceAdd, Nat.reduceSub, Nat.reduceMul, Nat.reduceEqDiff, reduceCtorEq, Nat.reduceLeDiff, Int.reduceLT, Int.reduceLE, Int.reduceEq, Int.reduceAdd, Int.reduceToNat, Int.reduceNeg, Int.reduceNegSucc, ↓vz_seq]; done) | (simp only [go_sem, List.range', reduceIte, Nat.reduceLT, Nat.reduceAdd, Nat.reduceSub, Nat.reduceMul, Nat.reduceEqDiff, reduceCtorEq, Nat.reduceLeDiff, Int.reduceLT, Int.reduceLE, Int.reduceEq, Int.reduceAdd, Int.reduceToNat, Int.reduceNeg, Int.reduceNegSucc, ↓vz_seq]; rfl)) ?_
      have hc : (Int.toNat ((b.toNat : Nat) : Int)).toUInt8 = b := by simp
      rw [hc]
      simp only [go_sem, List.range', reduceIte, Nat.reduceLT, Nat.reduceAdd, Nat.reduceSub, Nat.reduceMul, Nat.reduceEqDiff, reduceCtorEq, Nat.reduceLeDiff, Int.reduceLT, Int.reduceLE, Int.reduceEq, Int.reduceAdd, Int.reduceToNat, Int.reduceNeg, Int.reduceNegSucc, ↓vz_seq, h1]
      refine brG_dec (fun h2 => ?_) (fun h2 => ?_)
      · simp only [go_sem, List.range', reduceIte, Nat.reduceLT, Nat.reduceAdd, Nat.reduceSub, Nat.reduceMul, Nat.reduceEqDiff, reduceCtorEq, Nat.reduceLeDiff, Int.reduceLT, Int.reduceLE, Int.reduceEq, Int.reduceAdd, Int.reduceToNat, Int.reduceNeg, Int.reduceNegSucc, ↓vz_seq, h2]
        refine Pure.call (trim_pure s signs (by rw [← hs]; simp [ByteArray.size]) (by decide) (by omega) (by decide) (by decide)) (by first | (simp only [go_sem, List.range', reduceIte, Nat.reduceLT, Nat.reduceAdd, Nat.reduceSub, Nat.reduceMul, Nat.reduceEqDiff, reduceCtorEq, Nat.reduceLeDiff, Int.reduceLT, Int.reduceLE, Int.reduceEq, Int.reduceAdd, Int.reduceToNat, Int.reduceNeg, Int.reduceNegSucc, ↓vz_seq]; done) | (simp only [go_sem, List.range', reduceIte, Nat.reduceLT, Nat.reduceAdd, Nat.reduceSub, Nat.reduceMul, Nat.reduceEqDiff, reduceCtorEq, Nat.reduceLeDiff, Int.reduceLT, Int.reduceLE, Int.reduceEq, Int.reduceAdd, Int.reduceToNat, Int.reduceNeg, Int.reduceNegSucc, ↓vz_seq]; rfl)) ?_
        simp only [go_sem, List.range', reduceIte, Nat.reduceLT, Nat.reduceAdd, Nat.reduceSub, Nat.reduceMul, Nat.reduceEqDiff, reduceCtorEq, Nat.reduceLeDiff, Int.reduceLT, Int.reduceLE, Int.reduceEq, Int.reduceAdd, Int.reduceToNat, Int.reduceNeg, Int.reduceNegSucc, ↓vz_seq, h2]
        rw [hd]; simp [h1']
      · simp only [go_sem, List.range', reduceIte, Nat.reduceLT, Nat.reduceAdd, Nat.reduceSub, Nat.reduceMul, Nat.reduceEqDiff, reduceCtorEq, Nat.reduceLeDiff, Int.reduceLT, Int.reduceLE, Int.reduceEq, Int.reduceAdd, Int.reduceToNat, Int.reduceNeg, Int.reduceNegSucc, ↓vz_seq, h2]
    · simp only [go_sem, List.range', reduceIte, Nat.reduceLT, Nat.reduceAdd, Nat.reduceSub, Nat.reduceMul, Nat.reduceEqDiff, reduceCtorEq, Nat.reduceLeDiff, Int.reduceLT, Int.reduceLE, Int.reduceEq, Int.reduceAdd, Int.reduceToNat, Int.reduceNeg, Int.reduceNegSucc, ↓vz_seq, h1]
      have : ¬ s.size ≤ 16 := by omega
      simp [this]
end Go.Proofs.YtahamnipffckhaaDoor
