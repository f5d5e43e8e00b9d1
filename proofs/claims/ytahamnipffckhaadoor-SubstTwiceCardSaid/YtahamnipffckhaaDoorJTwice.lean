/-
  PROVED: for every three terms the call ashlarlaw05.SubstTwice returns true, and the arguments read afterwards as they read before.
  CONDITIONS: those of the given row (what comes in lies in memory that was made before the call; the five listed tables of Go's library start as the program's text lays them).
-/
import Derived.Test.YtahamnipffckhaaDoorJ1
import Derived.Test.YtahamnipffckhaaDoorF21
import Derived.Test.YtahamnipffckhaaDoorCards
import Derived.Test.YtahamnipffckhaaDoorTie
import Derived.SevenTiedAt
set_option linter.unusedVariables false
set_option linter.unusedSimpArgs false
namespace Go.Proofs.YtahamnipffckhaaDoor
open Go Go.RowKit Go.ChangeShapes Go.WideShapes Go.ChangeAt Go.ChangeMaps
theorem met_twice (os : Os) (args : Array Value) : laidMetH Tryd.prog Rows.substTwiceRow.laid ((World.laidAll Tryd.prog os Rows.substTwiceRow.laid).forCall (fun _ _ => 0) ⟨#[], args, []⟩).memory := by
  rw [MakeChecks.laidMetH_plain _ _ _ (by kernel_rfl)]; exact laidMet_laidAll _ (by kernel_rfl) (by kernel_rfl)
set_option maxRecDepth 100000 in
theorem twice_lifted (os : Os) (started : os.Started) (H : Type) (enc : TypeId × Value → H) :
    ReturnsInHanded {} Tryd.checked os 6 .any (fun w args => (Rows.substTwiceSpec.pre enc Tryd.prog Tryd.f6 [] false w args ∧ laidMetH Tryd.prog Rows.substTwiceRow.laid w) ∧ sizedMet enc Tryd.prog Tryd.f6 (OpenSpec.ofChange Rows.substTwiceSpec) false w args)
      (Rows.substTwiceSpec.post enc Tryd.prog Tryd.f6 false true false false) := by
  refine returnsInHanded_of_change_and (C := Tryd.checked) (X := fun w _ => laidMetH Tryd.prog Rows.substTwiceRow.laid w) (fun _ _ _ hh h => h.of_heap hh) own started (by kernel_rfl) Tryd.func6
    (ChangeSpec.witness_shaped (enc := enc) (C := Tryd.checked) (os := os) (X := fun w _ => laidMetH Tryd.prog Rows.substTwiceRow.laid w) false (World.laidAll Tryd.prog os Rows.substTwiceRow.laid) #[.agg #[.int .i64 0, .string ⟨#[]⟩, .int .i64 0, .slice none 0 0], .agg #[.int .i64 0, .string ⟨#[]⟩, .int .i64 0, .slice none 0 0], .agg #[.int .i64 0, .string ⟨#[]⟩, .int .i64 0, .slice none 0 0]] 8 (World.laidAll_os _ _ _)
      (World.shaped_of_ZipB (by kernel_rfl) (by kernel_rfl)) (by kernel_rfl) (by kernel_rfl) (by kernel_rfl) (met_twice os _)) ?_
  intro W base args ds gs before hval0 hW _ hsz hL _
  have hval : ∀ (j : Nat) t v, Tryd.f6.params[j]? = some t → args[j]? = some v → Value.okWide Tryd.prog W .any base t v := hval0
  have hW' := hW
  have hlt := hW.lt
  obtain ⟨p, q, hA0, hV, rfl, _, _⟩ := hW
  have hA : DataW.TrodAll enc Tryd.prog W 0 (fun _ => true) true Tryd.f6.params.toList args.toList ds p := hA0
  rw [Tryd.params6] at hA hval hsz
  obtain ⟨v0, v1, v2, d0, d1, d2, p0, p1, p2, rfl, rfl, rfl, h0, h1, h2⟩ := trodAll_three hA
  obtain ⟨rfl, rfl⟩ := trodVars_none hV
  obtain ⟨t, ht⟩ := open_term (hval 0 _ v0 rfl rfl) h0 (weights_at hsz (j := 0) rfl rfl)
  obtain ⟨a, ha⟩ := open_term (hval 1 _ v1 rfl rfl) h1 (weights_at hsz (j := 1) rfl rfl)
  obtain ⟨b, hb⟩ := open_term (hval 2 _ v2 rfl rfl) h2 (weights_at hsz (j := 2) rfl rfl)
  simp only [List.append_nil] at hW' hlt
  refine (law_call (SubstTwice_pure t a b) (vs := [v0, v1, v2]) (by simp only [relL]; exact ⟨_, _, rfl, ht, _, _, rfl, ha, _, _, rfl, hb, rfl⟩)).mono fun e W' ⟨he, hbl⟩ => ?_
  subst he
  have hlo := (show laidOutB Tryd.prog = true by kernel_rfl)
  have hrr := (show Tryd.prog.readableRec 27 = true by kernel_rfl)
  have hsz2 := (of_decide_eq_true (by kernel_rfl) : 27 < Tryd.prog.types.size)
  refine ⟨_, rfl, _, _, _, [], p0 ++ (p1 ++ p2), [], hW', trodAll_mk1 (shut_bool und4 _), ?_, rfl, hbl.frame _, fun h => by cases h⟩
  rw [Tryd.params6]
  exact trodAll_mk3 (Below.trod hlo hrr hsz2 h0 hbl fun x hx => hlt x (by simp [hx])) (Below.trod hlo hrr hsz2 h1 hbl fun x hx => hlt x (by simp [hx])) (Below.trod hlo hrr hsz2 h2 hbl fun x hx => hlt x (by simp [hx]))
theorem substTwice_holds : Rows.SubstTwiceSaid :=
  OpenClaim.holds_of_wide 6 Tryd.f6 rfl rfl rfl rfl rfl rfl rfl ⟨rfl, rfl, rfl, rfl, rfl⟩ rfl rfl rfl rfl rfl (by kernel_rfl) Tryd.func6 (by kernel_rfl)
    (of_decide_eq_true (by kernel_rfl)) (by unfold Func.isWrapper; first | (rw [if_pos (by decide +kernel)]; kernel_rfl) | (rw [if_neg (by decide +kernel)]; exact ⟨rfl, rfl⟩))
    (fun os started H enc _ => twice_lifted os started H enc)
theorem SubstTwice_card : Rows.SubstTwiceCardSaid :=
  Claim7.holds_tied_plain_at .later [] [.data, .data, .data, .data, .pinned] true (true, "fcf240797ad39be042d3216da9b8d5e7291f6e3e4f6e77e9c04177ac4914f580") true
    substTwice_holds (fun _ h => by cases h) (by kernel_rfl) (fun _ h => by cases h) substTwice_row_tie rfl ⟨rfl, rfl⟩ (by kernel_rfl) rfl
    (fun f fn hf hfn => by
      obtain rfl : f = 6 := Option.some.inj ((show Tryd.prog.funcNamed "ashlar/ashlarlaw05.SubstTwice" = some 6 by kernel_rfl).symm.trans hf) |>.symm
      obtain rfl : fn = Tryd.f6 := (Option.some.inj (Tryd.func6.symm.trans hfn)).symm
      exact ⟨by kernel_rfl, fun j t ht => by
        rw [Tryd.params6] at ht
        have hm : t ∈ [27, 27, 27] := by simpa using Array.mem_of_getElem? ht
        have hall : ([27, 27, 27].all fun u => !Tryd.prog.wantsStandIn u) = true := by kernel_rfl
        exact (show Tryd.prog.wantsStandIn t = false by simpa using List.all_eq_true.1 hall t hm)⟩)
    (by kernel_rfl)
end Go.Proofs.YtahamnipffckhaaDoor
