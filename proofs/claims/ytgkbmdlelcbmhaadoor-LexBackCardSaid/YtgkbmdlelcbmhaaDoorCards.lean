/-
  DERIVED. GIVEN WITH THE SEED: THE CARDS: each row of YtgkbmdlelcbmhaaDoorRows.lean that lists a variable, with what it lists TIED to the program's text (the seventh form; the later family's looks); each row that meets fmt, with fmt's text TOLD by the authors' own Lean function (tested against real Go, not proved from fmt's source: count such statements apart). THE CARD IS WHAT COUNTS. Prove the row's statement (the work); the ties are given (YtgkbmdlelcbmhaaDoorTie.lean); close each card by the builder's one call (the guide's Derived/Test/ToyasCard.lean, 'card_holds'). Laid BY PROGRAM, IN A SANDBOX (cutbox-door.mjs). By AI agents, Wed Nov 11 2026. No macro, syntax, notation, axiom, sorry.
-/
import Derived.Test.YtgkbmdlelcbmhaaDoorRows
import GoSem.ClaimSeven
namespace Go.Proofs.YtgkbmdlelcbmhaaDoor
namespace Rows

/-- THE TIED CARD OF 'rookerylaw15.LexScans'. -/
def lexScansCard : Claim7 := { stood := { row := lexScansRow, standIns := [], harness := (true, "4c17d5ea8f8908343fa1bf9bbbf199ed289057fd9899d3e43712baf7bfec5988"), looks := true }, kinds := [], alts := [], laidByText := true, laidKinds := [.data, .data, .data, .sentinel, .sentinel], laidTests := true, laidLooks := .later }
def LexScansCardSaid : Prop := Claim7.holds Tryd.pinned (.plain (OpenSpec.ofChange lexScansSpec)) lexScansCard

/-- THE TIED CARD OF 'rookerylaw15.LexSpells'. -/
def lexSpellsCard : Claim7 := { stood := { row := lexSpellsRow, standIns := [], harness := (true, "4c17d5ea8f8908343fa1bf9bbbf199ed289057fd9899d3e43712baf7bfec5988"), looks := true }, kinds := [], alts := [], laidByText := true, laidKinds := [.data, .data, .data, .sentinel, .sentinel], laidTests := true, laidLooks := .later }
def LexSpellsCardSaid : Prop := Claim7.holds Tryd.pinned (.plain (OpenSpec.ofChange lexSpellsSpec)) lexSpellsCard

/-- THE TIED CARD OF 'rookerylaw15.LexBack'. -/
def lexBackCard : Claim7 := { stood := { row := lexBackRow, standIns := [], harness := (true, "4c17d5ea8f8908343fa1bf9bbbf199ed289057fd9899d3e43712baf7bfec5988"), looks := true }, kinds := [], alts := [], laidByText := true, laidKinds := [.data, .data, .data, .sentinel, .sentinel], laidTests := true, laidLooks := .later }
def LexBackCardSaid : Prop := Claim7.holds Tryd.pinned (.plain (OpenSpec.ofChange lexBackSpec)) lexBackCard

/-- THE TIED CARD OF 'rookerylaw15.LexPlaces'. -/
def lexPlacesCard : Claim7 := { stood := { row := lexPlacesRow, standIns := [], harness := (true, "4c17d5ea8f8908343fa1bf9bbbf199ed289057fd9899d3e43712baf7bfec5988"), looks := true }, kinds := [], alts := [], laidByText := true, laidKinds := [.data, .data, .data, .sentinel, .sentinel], laidTests := true, laidLooks := .later }
def LexPlacesCardSaid : Prop := Claim7.holds Tryd.pinned (.plain (OpenSpec.ofChange lexPlacesSpec)) lexPlacesCard

/-- THE TIED CARD OF 'rookerylaw15.LexJoins'. -/
def lexJoinsCard : Claim7 := { stood := { row := lexJoinsRow, standIns := [], harness := (true, "4c17d5ea8f8908343fa1bf9bbbf199ed289057fd9899d3e43712baf7bfec5988"), looks := true }, kinds := [], alts := [], laidByText := true, laidKinds := [.data, .data, .data, .sentinel, .sentinel], laidTests := true, laidLooks := .later }
def LexJoinsCardSaid : Prop := Claim7.holds Tryd.pinned (.plain (OpenSpec.ofChange lexJoinsSpec)) lexJoinsCard

/-- THE TIED CARD OF 'rookerylaw15.LexMany'. -/
def lexManyCard : Claim7 := { stood := { row := lexManyRow, standIns := [], harness := (true, "4c17d5ea8f8908343fa1bf9bbbf199ed289057fd9899d3e43712baf7bfec5988"), looks := true }, kinds := [], alts := [], laidByText := true, laidKinds := [.data, .data, .data, .sentinel, .sentinel], laidTests := true, laidLooks := .later }
def LexManyCardSaid : Prop := Claim7.holds Tryd.pinned (.plain (OpenSpec.ofChange lexManySpec)) lexManyCard

/-- THE TIED CARD OF 'rookerylaw16.GramDeep'. -/
def gramDeepCard : Claim7 := { stood := { row := gramDeepRow, standIns := [], harness := (true, "4c17d5ea8f8908343fa1bf9bbbf199ed289057fd9899d3e43712baf7bfec5988"), looks := true }, kinds := [], alts := [], laidByText := true, laidKinds := [.data, .data, .data, .sentinel, .sentinel], laidTests := true, laidLooks := .later }
def GramDeepCardSaid : Prop := Claim7.holds Tryd.pinned (.plain (OpenSpec.ofChange gramDeepSpec)) gramDeepCard

/-- THE TIED CARD OF 'rookerylaw16.GramFuns'. -/
def gramFunsCard : Claim7 := { stood := { row := gramFunsRow, standIns := [], harness := (true, "4c17d5ea8f8908343fa1bf9bbbf199ed289057fd9899d3e43712baf7bfec5988"), looks := true }, kinds := [], alts := [], laidByText := true, laidKinds := [.data, .data, .data, .sentinel, .sentinel], laidTests := true, laidLooks := .later }
def GramFunsCardSaid : Prop := Claim7.holds Tryd.pinned (.plain (OpenSpec.ofChange gramFunsSpec)) gramFunsCard

/-- THE TIED CARD OF 'rookerylaw16.GramNames'. -/
def gramNamesCard : Claim7 := { stood := { row := gramNamesRow, standIns := [], harness := (true, "4c17d5ea8f8908343fa1bf9bbbf199ed289057fd9899d3e43712baf7bfec5988"), looks := true }, kinds := [], alts := [], laidByText := true, laidKinds := [.data, .data, .data, .sentinel, .sentinel], laidTests := true, laidLooks := .later }
def GramNamesCardSaid : Prop := Claim7.holds Tryd.pinned (.plain (OpenSpec.ofChange gramNamesSpec)) gramNamesCard

/-- THE TIED CARD OF 'rookerylaw16.GramYields'. -/
def gramYieldsCard : Claim7 := { stood := { row := gramYieldsRow, standIns := [], harness := (true, "4c17d5ea8f8908343fa1bf9bbbf199ed289057fd9899d3e43712baf7bfec5988"), looks := true }, kinds := [], alts := [], laidByText := true, laidKinds := [.data, .data, .data, .sentinel, .sentinel], laidTests := true, laidLooks := .later }
def GramYieldsCardSaid : Prop := Claim7.holds Tryd.pinned (.plain (OpenSpec.ofChange gramYieldsSpec)) gramYieldsCard

/-- THE SECOND FORM's CARD OF 'rookerylaw15.LexScans'. -/
def lexScansUptoCard : Claim7 := { stood := { row := lexScansUptoRow, standIns := [], harness := (true, "4c17d5ea8f8908343fa1bf9bbbf199ed289057fd9899d3e43712baf7bfec5988"), looks := true }, kinds := [], alts := [], laidByText := true, laidKinds := [.data, .data, .data, .sentinel, .sentinel], laidTests := true, laidLooks := .later }
def LexScansUptoCardSaid : Prop := Claim7.holds Tryd.pinned (.plain (OpenSpec.upto lexScansSpec)) lexScansUptoCard

/-- THE SECOND FORM's CARD OF 'rookerylaw15.LexSpells'. -/
def lexSpellsUptoCard : Claim7 := { stood := { row := lexSpellsUptoRow, standIns := [], harness := (true, "4c17d5ea8f8908343fa1bf9bbbf199ed289057fd9899d3e43712baf7bfec5988"), looks := true }, kinds := [], alts := [], laidByText := true, laidKinds := [.data, .data, .data, .sentinel, .sentinel], laidTests := true, laidLooks := .later }
def LexSpellsUptoCardSaid : Prop := Claim7.holds Tryd.pinned (.plain (OpenSpec.upto lexSpellsSpec)) lexSpellsUptoCard

/-- THE SECOND FORM's CARD OF 'rookerylaw15.LexBack'. -/
def lexBackUptoCard : Claim7 := { stood := { row := lexBackUptoRow, standIns := [], harness := (true, "4c17d5ea8f8908343fa1bf9bbbf199ed289057fd9899d3e43712baf7bfec5988"), looks := true }, kinds := [], alts := [], laidByText := true, laidKinds := [.data, .data, .data, .sentinel, .sentinel], laidTests := true, laidLooks := .later }
def LexBackUptoCardSaid : Prop := Claim7.holds Tryd.pinned (.plain (OpenSpec.upto lexBackSpec)) lexBackUptoCard

/-- THE SECOND FORM's CARD OF 'rookerylaw15.LexPlaces'. -/
def lexPlacesUptoCard : Claim7 := { stood := { row := lexPlacesUptoRow, standIns := [], harness := (true, "4c17d5ea8f8908343fa1bf9bbbf199ed289057fd9899d3e43712baf7bfec5988"), looks := true }, kinds := [], alts := [], laidByText := true, laidKinds := [.data, .data, .data, .sentinel, .sentinel], laidTests := true, laidLooks := .later }
def LexPlacesUptoCardSaid : Prop := Claim7.holds Tryd.pinned (.plain (OpenSpec.upto lexPlacesSpec)) lexPlacesUptoCard

/-- THE SECOND FORM's CARD OF 'rookerylaw15.LexJoins'. -/
def lexJoinsUptoCard : Claim7 := { stood := { row := lexJoinsUptoRow, standIns := [], harness := (true, "4c17d5ea8f8908343fa1bf9bbbf199ed289057fd9899d3e43712baf7bfec5988"), looks := true }, kinds := [], alts := [], laidByText := true, laidKinds := [.data, .data, .data, .sentinel, .sentinel], laidTests := true, laidLooks := .later }
def LexJoinsUptoCardSaid : Prop := Claim7.holds Tryd.pinned (.plain (OpenSpec.upto lexJoinsSpec)) lexJoinsUptoCard

/-- THE SECOND FORM's CARD OF 'rookerylaw15.LexMany'. -/
def lexManyUptoCard : Claim7 := { stood := { row := lexManyUptoRow, standIns := [], harness := (true, "4c17d5ea8f8908343fa1bf9bbbf199ed289057fd9899d3e43712baf7bfec5988"), looks := true }, kinds := [], alts := [], laidByText := true, laidKinds := [.data, .data, .data, .sentinel, .sentinel], laidTests := true, laidLooks := .later }
def LexManyUptoCardSaid : Prop := Claim7.holds Tryd.pinned (.plain (OpenSpec.upto lexManySpec)) lexManyUptoCard

/-- THE SECOND FORM's CARD OF 'rookerylaw16.GramDeep'. -/
def gramDeepUptoCard : Claim7 := { stood := { row := gramDeepUptoRow, standIns := [], harness := (true, "4c17d5ea8f8908343fa1bf9bbbf199ed289057fd9899d3e43712baf7bfec5988"), looks := true }, kinds := [], alts := [], laidByText := true, laidKinds := [.data, .data, .data, .sentinel, .sentinel], laidTests := true, laidLooks := .later }
def GramDeepUptoCardSaid : Prop := Claim7.holds Tryd.pinned (.plain (OpenSpec.upto gramDeepSpec)) gramDeepUptoCard

/-- THE SECOND FORM's CARD OF 'rookerylaw16.GramFuns'. -/
def gramFunsUptoCard : Claim7 := { stood := { row := gramFunsUptoRow, standIns := [], harness := (true, "4c17d5ea8f8908343fa1bf9bbbf199ed289057fd9899d3e43712baf7bfec5988"), looks := true }, kinds := [], alts := [], laidByText := true, laidKinds := [.data, .data, .data, .sentinel, .sentinel], laidTests := true, laidLooks := .later }
def GramFunsUptoCardSaid : Prop := Claim7.holds Tryd.pinned (.plain (OpenSpec.upto gramFunsSpec)) gramFunsUptoCard

/-- THE SECOND FORM's CARD OF 'rookerylaw16.GramNames'. -/
def gramNamesUptoCard : Claim7 := { stood := { row := gramNamesUptoRow, standIns := [], harness := (true, "4c17d5ea8f8908343fa1bf9bbbf199ed289057fd9899d3e43712baf7bfec5988"), looks := true }, kinds := [], alts := [], laidByText := true, laidKinds := [.data, .data, .data, .sentinel, .sentinel], laidTests := true, laidLooks := .later }
def GramNamesUptoCardSaid : Prop := Claim7.holds Tryd.pinned (.plain (OpenSpec.upto gramNamesSpec)) gramNamesUptoCard

/-- THE SECOND FORM's CARD OF 'rookerylaw16.GramYields'. -/
def gramYieldsUptoCard : Claim7 := { stood := { row := gramYieldsUptoRow, standIns := [], harness := (true, "4c17d5ea8f8908343fa1bf9bbbf199ed289057fd9899d3e43712baf7bfec5988"), looks := true }, kinds := [], alts := [], laidByText := true, laidKinds := [.data, .data, .data, .sentinel, .sentinel], laidTests := true, laidLooks := .later }
def GramYieldsUptoCardSaid : Prop := Claim7.holds Tryd.pinned (.plain (OpenSpec.upto gramYieldsSpec)) gramYieldsUptoCard
end Rows
end Go.Proofs.YtgkbmdlelcbmhaaDoor
