/-
  DERIVED. GIVEN WITH THE SEED: THE CARDS: each row of YtahamnipffckhaaDoorRows.lean that lists a variable, with what it lists TIED to the program's text (the seventh form; the later family's looks); each row that meets fmt, with fmt's text TOLD by the authors' own Lean function (tested against real Go, not proved from fmt's source: count such statements apart). THE CARD IS WHAT COUNTS. Prove the row's statement (the work); the ties are given (YtahamnipffckhaaDoorTie.lean); close each card by the builder's one call (the guide's Derived/Test/ToyasCard.lean, 'card_holds'). Laid BY PROGRAM, IN A SANDBOX (cutbox-door.mjs). By AI agents, Wed Nov 11 2026. No macro, syntax, notation, axiom, sorry.
-/
import Derived.Test.YtahamnipffckhaaDoorRows
import GoSem.ClaimSeven
namespace Go.Proofs.YtahamnipffckhaaDoor
namespace Rows

/-- THE TIED CARD OF 'ashlarlaw19.HornMany'. -/
def hornManyCard : Claim7 := { stood := { row := hornManyRow, standIns := [], harness := (true, "fcf240797ad39be042d3216da9b8d5e7291f6e3e4f6e77e9c04177ac4914f580"), looks := true }, kinds := [], alts := [], laidByText := true, laidKinds := [.data, .pinned], laidTests := true, laidLooks := .later }
def HornManyCardSaid : Prop := Claim7.holds Tryd.pinned (.plain (OpenSpec.ofChange hornManySpec)) hornManyCard

/-- THE TIED CARD OF 'ashlarlaw19.HornIdle'. -/
def hornIdleCard : Claim7 := { stood := { row := hornIdleRow, standIns := [], harness := (true, "fcf240797ad39be042d3216da9b8d5e7291f6e3e4f6e77e9c04177ac4914f580"), looks := true }, kinds := [], alts := [], laidByText := true, laidKinds := [.data, .pinned], laidTests := true, laidLooks := .later }
def HornIdleCardSaid : Prop := Claim7.holds Tryd.pinned (.plain (OpenSpec.ofChange hornIdleSpec)) hornIdleCard

/-- THE TIED CARD OF 'ashlarlaw05.SubstNone'. -/
def substNoneCard : Claim7 := { stood := { row := substNoneRow, standIns := [], harness := (true, "fcf240797ad39be042d3216da9b8d5e7291f6e3e4f6e77e9c04177ac4914f580"), looks := true }, kinds := [], alts := [], laidByText := true, laidKinds := [.data, .data, .data, .data, .pinned], laidTests := true, laidLooks := .later }
def SubstNoneCardSaid : Prop := Claim7.holds Tryd.pinned (.plain (OpenSpec.ofChange substNoneSpec)) substNoneCard

/-- THE TIED CARD OF 'ashlarlaw05.SubstTwice'. -/
def substTwiceCard : Claim7 := { stood := { row := substTwiceRow, standIns := [], harness := (true, "fcf240797ad39be042d3216da9b8d5e7291f6e3e4f6e77e9c04177ac4914f580"), looks := true }, kinds := [], alts := [], laidByText := true, laidKinds := [.data, .data, .data, .data, .pinned], laidTests := true, laidLooks := .later }
def SubstTwiceCardSaid : Prop := Claim7.holds Tryd.pinned (.plain (OpenSpec.ofChange substTwiceSpec)) substTwiceCard

/-- THE TIED CARD OF 'ashlarlaw05.SubstFresh'. -/
def substFreshCard : Claim7 := { stood := { row := substFreshRow, standIns := [], harness := (true, "fcf240797ad39be042d3216da9b8d5e7291f6e3e4f6e77e9c04177ac4914f580"), looks := true }, kinds := [], alts := [], laidByText := true, laidKinds := [.data, .data, .data, .data, .pinned], laidTests := true, laidLooks := .later }
def SubstFreshCardSaid : Prop := Claim7.holds Tryd.pinned (.plain (OpenSpec.ofChange substFreshSpec)) substFreshCard

/-- THE SECOND FORM's CARD OF 'ashlarlaw19.HornMany'. -/
def hornManyUptoCard : Claim7 := { stood := { row := hornManyUptoRow, standIns := [], harness := (true, "fcf240797ad39be042d3216da9b8d5e7291f6e3e4f6e77e9c04177ac4914f580"), looks := true }, kinds := [], alts := [], laidByText := true, laidKinds := [.data, .pinned], laidTests := true, laidLooks := .later }
def HornManyUptoCardSaid : Prop := Claim7.holds Tryd.pinned (.plain (OpenSpec.upto hornManySpec)) hornManyUptoCard

/-- THE SECOND FORM's CARD OF 'ashlarlaw19.HornIdle'. -/
def hornIdleUptoCard : Claim7 := { stood := { row := hornIdleUptoRow, standIns := [], harness := (true, "fcf240797ad39be042d3216da9b8d5e7291f6e3e4f6e77e9c04177ac4914f580"), looks := true }, kinds := [], alts := [], laidByText := true, laidKinds := [.data, .pinned], laidTests := true, laidLooks := .later }
def HornIdleUptoCardSaid : Prop := Claim7.holds Tryd.pinned (.plain (OpenSpec.upto hornIdleSpec)) hornIdleUptoCard

/-- THE SECOND FORM's CARD OF 'ashlarlaw05.SubstNone'. -/
def substNoneUptoCard : Claim7 := { stood := { row := substNoneUptoRow, standIns := [], harness := (true, "fcf240797ad39be042d3216da9b8d5e7291f6e3e4f6e77e9c04177ac4914f580"), looks := true }, kinds := [], alts := [], laidByText := true, laidKinds := [.data, .data, .data, .data, .pinned], laidTests := true, laidLooks := .later }
def SubstNoneUptoCardSaid : Prop := Claim7.holds Tryd.pinned (.plain (OpenSpec.upto substNoneSpec)) substNoneUptoCard

/-- THE SECOND FORM's CARD OF 'ashlarlaw05.SubstTwice'. -/
def substTwiceUptoCard : Claim7 := { stood := { row := substTwiceUptoRow, standIns := [], harness := (true, "fcf240797ad39be042d3216da9b8d5e7291f6e3e4f6e77e9c04177ac4914f580"), looks := true }, kinds := [], alts := [], laidByText := true, laidKinds := [.data, .data, .data, .data, .pinned], laidTests := true, laidLooks := .later }
def SubstTwiceUptoCardSaid : Prop := Claim7.holds Tryd.pinned (.plain (OpenSpec.upto substTwiceSpec)) substTwiceUptoCard

/-- THE SECOND FORM's CARD OF 'ashlarlaw05.SubstFresh'. -/
def substFreshUptoCard : Claim7 := { stood := { row := substFreshUptoRow, standIns := [], harness := (true, "fcf240797ad39be042d3216da9b8d5e7291f6e3e4f6e77e9c04177ac4914f580"), looks := true }, kinds := [], alts := [], laidByText := true, laidKinds := [.data, .data, .data, .data, .pinned], laidTests := true, laidLooks := .later }
def SubstFreshUptoCardSaid : Prop := Claim7.holds Tryd.pinned (.plain (OpenSpec.upto substFreshSpec)) substFreshUptoCard
end Rows
end Go.Proofs.YtahamnipffckhaaDoor
