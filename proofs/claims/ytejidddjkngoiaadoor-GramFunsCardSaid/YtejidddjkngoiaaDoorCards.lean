/-
  DERIVED. GIVEN WITH THE SEED: THE CARDS: each row of YtejidddjkngoiaaDoorRows.lean that lists a variable, with what it lists TIED to the program's text (the seventh form; the later family's looks); each row that meets fmt, with fmt's text TOLD by the authors' own Lean function (tested against real Go, not proved from fmt's source: count such statements apart). THE CARD IS WHAT COUNTS. Prove the row's statement (the work); the ties are given (YtejidddjkngoiaaDoorTie.lean); close each card by the builder's one call (the guide's Derived/Test/ToyasCard.lean, 'card_holds'). Laid BY PROGRAM, IN A SANDBOX (cutbox-door.mjs). By AI agents, Wed Nov 11 2026. No macro, syntax, notation, axiom, sorry.
-/
import Derived.Test.YtejidddjkngoiaaDoorRows
import GoSem.ClaimSeven
namespace Go.Proofs.YtejidddjkngoiaaDoor
namespace Rows

/-- THE TIED CARD OF 'rookerylaw16.GramDeep'. -/
def gramDeepCard : Claim7 := { stood := { row := gramDeepRow, standIns := [], harness := (true, "9d6d4a0a16e88d1d6100050902858ed35cd22c63254d04cdeddb04e7e85a8b1f"), looks := true }, kinds := [], alts := [], laidByText := true, laidKinds := [.data, .data, .data, .sentinel, .sentinel], laidTests := true, laidLooks := .later }
def GramDeepCardSaid : Prop := Claim7.holds Tryd.pinned (.plain (OpenSpec.ofChange gramDeepSpec)) gramDeepCard

/-- THE TIED CARD OF 'rookerylaw16.GramFuns'. -/
def gramFunsCard : Claim7 := { stood := { row := gramFunsRow, standIns := [], harness := (true, "9d6d4a0a16e88d1d6100050902858ed35cd22c63254d04cdeddb04e7e85a8b1f"), looks := true }, kinds := [], alts := [], laidByText := true, laidKinds := [.data, .data, .data, .sentinel, .sentinel], laidTests := true, laidLooks := .later }
def GramFunsCardSaid : Prop := Claim7.holds Tryd.pinned (.plain (OpenSpec.ofChange gramFunsSpec)) gramFunsCard

/-- THE TIED CARD OF 'rookerylaw16.GramNames'. -/
def gramNamesCard : Claim7 := { stood := { row := gramNamesRow, standIns := [], harness := (true, "9d6d4a0a16e88d1d6100050902858ed35cd22c63254d04cdeddb04e7e85a8b1f"), looks := true }, kinds := [], alts := [], laidByText := true, laidKinds := [.data, .data, .data, .sentinel, .sentinel], laidTests := true, laidLooks := .later }
def GramNamesCardSaid : Prop := Claim7.holds Tryd.pinned (.plain (OpenSpec.ofChange gramNamesSpec)) gramNamesCard

/-- THE TIED CARD OF 'rookerylaw16.GramYields'. -/
def gramYieldsCard : Claim7 := { stood := { row := gramYieldsRow, standIns := [], harness := (true, "9d6d4a0a16e88d1d6100050902858ed35cd22c63254d04cdeddb04e7e85a8b1f"), looks := true }, kinds := [], alts := [], laidByText := true, laidKinds := [.data, .data, .data, .sentinel, .sentinel], laidTests := true, laidLooks := .later }
def GramYieldsCardSaid : Prop := Claim7.holds Tryd.pinned (.plain (OpenSpec.ofChange gramYieldsSpec)) gramYieldsCard

/-- THE SECOND FORM's CARD OF 'rookerylaw16.GramDeep'. -/
def gramDeepUptoCard : Claim7 := { stood := { row := gramDeepUptoRow, standIns := [], harness := (true, "9d6d4a0a16e88d1d6100050902858ed35cd22c63254d04cdeddb04e7e85a8b1f"), looks := true }, kinds := [], alts := [], laidByText := true, laidKinds := [.data, .data, .data, .sentinel, .sentinel], laidTests := true, laidLooks := .later }
def GramDeepUptoCardSaid : Prop := Claim7.holds Tryd.pinned (.plain (OpenSpec.upto gramDeepSpec)) gramDeepUptoCard

/-- THE SECOND FORM's CARD OF 'rookerylaw16.GramFuns'. -/
def gramFunsUptoCard : Claim7 := { stood := { row := gramFunsUptoRow, standIns := [], harness := (true, "9d6d4a0a16e88d1d6100050902858ed35cd22c63254d04cdeddb04e7e85a8b1f"), looks := true }, kinds := [], alts := [], laidByText := true, laidKinds := [.data, .data, .data, .sentinel, .sentinel], laidTests := true, laidLooks := .later }
def GramFunsUptoCardSaid : Prop := Claim7.holds Tryd.pinned (.plain (OpenSpec.upto gramFunsSpec)) gramFunsUptoCard

/-- THE SECOND FORM's CARD OF 'rookerylaw16.GramNames'. -/
def gramNamesUptoCard : Claim7 := { stood := { row := gramNamesUptoRow, standIns := [], harness := (true, "9d6d4a0a16e88d1d6100050902858ed35cd22c63254d04cdeddb04e7e85a8b1f"), looks := true }, kinds := [], alts := [], laidByText := true, laidKinds := [.data, .data, .data, .sentinel, .sentinel], laidTests := true, laidLooks := .later }
def GramNamesUptoCardSaid : Prop := Claim7.holds Tryd.pinned (.plain (OpenSpec.upto gramNamesSpec)) gramNamesUptoCard

/-- THE SECOND FORM's CARD OF 'rookerylaw16.GramYields'. -/
def gramYieldsUptoCard : Claim7 := { stood := { row := gramYieldsUptoRow, standIns := [], harness := (true, "9d6d4a0a16e88d1d6100050902858ed35cd22c63254d04cdeddb04e7e85a8b1f"), looks := true }, kinds := [], alts := [], laidByText := true, laidKinds := [.data, .data, .data, .sentinel, .sentinel], laidTests := true, laidLooks := .later }
def GramYieldsUptoCardSaid : Prop := Claim7.holds Tryd.pinned (.plain (OpenSpec.upto gramYieldsSpec)) gramYieldsUptoCard
end Rows
end Go.Proofs.YtejidddjkngoiaaDoor
