/-
  PROVED: for every slice of terms and every name the call ashlarlaw05.SubstFresh returns true, and both arguments read afterwards as they read before.
  CONDITIONS: those of the given row (what comes in lies in memory that was made before the call; the five listed tables of Go's library start as the program's text lays them).
-/
import Derived.Test.YtahamnipffckhaaDoorJ1
import Derived.Test.YtahamnipffckhaaDoorCards
import Derived.Test.YtahamnipffckhaaDoorTie
import Derived.SevenTiedAt
set_option linter.unusedVariables false
set_option linter.unusedSimpArgs false
namespace Go.Proofs.YtahamnipffckhaaDoor
open Go Go.RowKit Go.ChangeShapes Go.WideShapes Go.ChangeAt Go.ChangeMaps
theorem met_fresh (os : Os) (args : Array Value) : laidMetH Tryd.prog Rows.substFreshRow.laid ((World.laidAll Tryd.prog os Rows.substFreshRow.laid).forCall (fun _ _ => 0) ⟨#[], args, []⟩).memory := by
  rw [MakeChecks.laidMetH_plain _ _ _ (by kernel_rfl)]; exact laidMet_laidAll _ (by kernel_rfl) (by kernel_rfl)
set_option maxRecDepth 100000 in
theorem fresh_lifted (os : Os) (started : os.Started) (H : Type) (enc : TypeId × Value → H) :
    ReturnsInHanded {} Tryd.checked os 7 .any (fun w args => (Rows.substFreshSpec.pre enc Tryd.prog Tryd.f7 [] false w args ∧ laidMetH Tryd.prog Rows.substFreshRow.laid w) ∧ sizedMet enc Tryd.prog Tryd.f7 (OpenSpec.ofChange Rows.substFreshSpec) false w args)
      (Rows.substFreshSpec.post enc Tryd.prog Tryd.f7 false true false false) := by
  refine returnsInHanded_of_change_and (C := Tryd.checked) (X := fun w _ => laidMetH Tryd.prog Rows.substFreshRow.laid w) (fun _ _ _ hh h => h.of_heap hh) own started (by kernel_rfl) Tryd.func7
    (ChangeSpec.witness_shaped (enc := enc) (C := Tryd.checked) (os := os) (X := fun w _ => laidMetH Tryd.prog Rows.substFreshRow.laid w) false (World.laidAll Tryd.prog os Rows.substFreshRow.laid) #[.slice none 0 0, .string ⟨#[]⟩] 8 (World.laidAll_os _ _ _)
      (World.shaped_of_ZipB (by kernel_rfl) (by kernel_rfl)) (by kernel_rfl) (by kernel_rfl) (by kernel_rfl) (met_fresh os _)) ?_
  intro W base args ds gs before hval0 hW _ hsz hL _
  have hval : ∀ (j : Nat) t v, Tryd.f7.params[j]? = some t → args[j]? = some v → Value.okWide Tryd.prog W .any base t v := hval0
  have hW' := hW
  have hlt := hW.lt
  obtain ⟨p, q, hA0, hV, rfl, _, _⟩ := hW
  have hA : DataW.TrodAll enc Tryd.prog W 0 (fun _ => true) true Tryd.f7.params.toList args.toList ds p := hA0
  rw [Tryd.params7] at hA hval hsz
  obtain ⟨v0, v1, d0, d1, p0, p1, rfl, rfl, rfl, h0, h1⟩ := trodAll_two hA
  obtain ⟨rfl, rfl⟩ := trodVars_none hV
  obtain ⟨ts, ht⟩ := open_terms (hval 0 _ v0 rfl rfl) h0 (weights_at hsz (j := 0) rfl rfl)
  obtain ⟨s, rfl, rfl, rfl, hs⟩ := open_string un9 (hval 1 _ v1 rfl rfl) h1
  simp only [List.append_nil] at hW' hlt
  refine (law_call (SubstFresh_pure ts s) (vs := [v0, .string s]) (by simp only [relL]; exact ⟨_, _, rfl, ht, _, _, rfl, by simp only [rel], rfl⟩)).mono fun e W' ⟨he, hb⟩ => ?_
  subst he
  refine ⟨_, rfl, _, _, _, [], p0, [], hW', trodAll_mk1 (shut_bool und4 _), ?_, rfl, hb.frame _, fun h => by cases h⟩
  rw [Tryd.params7]
  have hk0 : DataW.Trod enc Tryd.prog W' 0 (fun b => decide (b < W.heap.size)) true 25 v0 d0 p0 := Below.trod (by kernel_rfl) (by kernel_rfl) (of_decide_eq_true (by kernel_rfl)) h0 hb hlt
  show DataW.TrodAll enc Tryd.prog W' 0 _ true [25, 9] [v0, .string s] [d0, .lit (.string s.data.toList)] p0
  simp only [DataW.TrodAll]
  refine ⟨p0, [], hk0, ⟨[], [], shut_string un9 hs, rfl, rfl⟩, by simp⟩
theorem substFresh_holds : Rows.SubstFreshSaid :=
  OpenClaim.holds_of_wide 7 Tryd.f7 rfl rfl rfl rfl rfl rfl rfl ⟨rfl, rfl, rfl, rfl, rfl⟩ rfl rfl rfl rfl rfl (by kernel_rfl) Tryd.func7 (by kernel_rfl)
    (of_decide_eq_true (by kernel_rfl)) (by unfold Func.isWrapper; first | (rw [if_pos (by decide +kernel)]; kernel_rfl) | (rw [if_neg (by decide +kernel)]; exact ⟨rfl, rfl⟩))
    (fun os started H enc _ => fresh_lifted os started H enc)
theorem SubstFresh_card : Rows.SubstFreshCardSaid :=
  Claim7.holds_tied_plain_at .later [] [.data, .data, .data, .data, .pinned] true (true, "fcf240797ad39be042d3216da9b8d5e7291f6e3e4f6e77e9c04177ac4914f580") true
    substFresh_holds (fun _ h => by cases h) (by kernel_rfl) (fun _ h => by cases h) substFresh_row_tie rfl ⟨rfl, rfl⟩ (by kernel_rfl) rfl
    (fun f fn hf hfn => by
      obtain rfl : f = 7 := Option.some.inj ((show Tryd.prog.funcNamed "ashlar/ashlarlaw05.SubstFresh" = some 7 by kernel_rfl).symm.trans hf) |>.symm
      obtain rfl : fn = Tryd.f7 := (Option.some.inj (Tryd.func7.symm.trans hfn)).symm
      exact ⟨by kernel_rfl, fun j t ht => by
        rw [Tryd.params7] at ht
        have hm : t ∈ [25, 9] := by simpa using Array.mem_of_getElem? ht
        have hall : ([25, 9].all fun u => !Tryd.prog.wantsStandIn u) = true := by kernel_rfl
        exact (show Tryd.prog.wantsStandIn t = false by simpa using List.all_eq_true.1 hall t hm)⟩)
    (by kernel_rfl)
end Go.Proofs.YtahamnipffckhaaDoor
