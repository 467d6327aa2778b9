/-
  DERIVED. GIVEN WITH THE SEED: THE CARDS: each row of YthhmioodienlmaaGreatDoorRows.lean that lists a variable, with what it lists TIED to the program's text (the seventh form; the later family's looks); each row that meets fmt, with fmt's text TOLD by the authors' own Lean function (tested against real Go, not proved from fmt's source: count such statements apart). THE CARD IS WHAT COUNTS. Prove the row's statement (the work); the ties are given (YthhmioodienlmaaGreatDoorTie.lean); close each card by the builder's one call (the guide's Derived/Test/ToyasCard.lean, 'card_holds'). Laid BY PROGRAM, IN A SANDBOX (cutbox-door.mjs). By AI agents, Wed Nov 11 2026. No macro, syntax, notation, axiom, sorry.
-/
import Derived.Test.YthhmioodienlmaaGreatDoorRows
import GoSem.ClaimSeven
namespace Go.Proofs.YthhmioodienlmaaGreatDoor
namespace Rows

/-- THE TIED CARD OF 'modcertlaw08.WellformedTypes'. -/
def wellformedTypesCard : Claim7 := { stood := { row := wellformedTypesRow, standIns := [], harness := (true, "c46f4983d80ff8c12a4ec6fe7daddba5c68a7862346d4c10149d4eca047f82ac"), looks := false }, kinds := [], alts := [], laidByText := true, laidKinds := [.data, .data, .data, .data, .pinned], laidTests := true, laidLooks := .later }
def WellformedTypesCardSaid : Prop := Claim7.holds Tryz.pinned (.plain (OpenSpec.ofChange wellformedTypesSpec)) wellformedTypesCard

/-- THE TIED CARD OF 'modcertlaw08.WellformedAdds'. -/
def wellformedAddsCard : Claim7 := { stood := { row := wellformedAddsRow, standIns := [], harness := (true, "c46f4983d80ff8c12a4ec6fe7daddba5c68a7862346d4c10149d4eca047f82ac"), looks := false }, kinds := [], alts := [], laidByText := true, laidKinds := [.data, .data, .data, .data, .pinned], laidTests := true, laidLooks := .later }
def WellformedAddsCardSaid : Prop := Claim7.holds Tryz.pinned (.plain (OpenSpec.ofChange wellformedAddsSpec)) wellformedAddsCard

/-- THE TIED CARD OF 'modcertlaw08.WellformedChains'. -/
def wellformedChainsCard : Claim7 := { stood := { row := wellformedChainsRow, standIns := [], harness := (true, "c46f4983d80ff8c12a4ec6fe7daddba5c68a7862346d4c10149d4eca047f82ac"), looks := false }, kinds := [], alts := [], laidByText := true, laidKinds := [.data, .data, .data, .data, .pinned], laidTests := true, laidLooks := .later }
def WellformedChainsCardSaid : Prop := Claim7.holds Tryz.pinned (.plain (OpenSpec.ofChange wellformedChainsSpec)) wellformedChainsCard

/-- THE TIED CARD OF 'modcertlaw08.WellformedMembers'. -/
def wellformedMembersCard : Claim7 := { stood := { row := wellformedMembersRow, standIns := [], harness := (true, "c46f4983d80ff8c12a4ec6fe7daddba5c68a7862346d4c10149d4eca047f82ac"), looks := false }, kinds := [], alts := [], laidByText := true, laidKinds := [.data, .data, .data, .data, .pinned], laidTests := true, laidLooks := .later }
def WellformedMembersCardSaid : Prop := Claim7.holds Tryz.pinned (.plain (OpenSpec.ofChange wellformedMembersSpec)) wellformedMembersCard

/-- THE SECOND FORM's CARD OF 'modcertlaw08.WellformedTypes'. -/
def wellformedTypesUptoCard : Claim7 := { stood := { row := wellformedTypesUptoRow, standIns := [], harness := (true, "c46f4983d80ff8c12a4ec6fe7daddba5c68a7862346d4c10149d4eca047f82ac"), looks := false }, kinds := [], alts := [], laidByText := true, laidKinds := [.data, .data, .data, .data, .pinned], laidTests := true, laidLooks := .later }
def WellformedTypesUptoCardSaid : Prop := Claim7.holds Tryz.pinned (.plain (OpenSpec.upto wellformedTypesSpec)) wellformedTypesUptoCard

/-- THE SECOND FORM's CARD OF 'modcertlaw08.WellformedAdds'. -/
def wellformedAddsUptoCard : Claim7 := { stood := { row := wellformedAddsUptoRow, standIns := [], harness := (true, "c46f4983d80ff8c12a4ec6fe7daddba5c68a7862346d4c10149d4eca047f82ac"), looks := false }, kinds := [], alts := [], laidByText := true, laidKinds := [.data, .data, .data, .data, .pinned], laidTests := true, laidLooks := .later }
def WellformedAddsUptoCardSaid : Prop := Claim7.holds Tryz.pinned (.plain (OpenSpec.upto wellformedAddsSpec)) wellformedAddsUptoCard

/-- THE SECOND FORM's CARD OF 'modcertlaw08.WellformedChains'. -/
def wellformedChainsUptoCard : Claim7 := { stood := { row := wellformedChainsUptoRow, standIns := [], harness := (true, "c46f4983d80ff8c12a4ec6fe7daddba5c68a7862346d4c10149d4eca047f82ac"), looks := false }, kinds := [], alts := [], laidByText := true, laidKinds := [.data, .data, .data, .data, .pinned], laidTests := true, laidLooks := .later }
def WellformedChainsUptoCardSaid : Prop := Claim7.holds Tryz.pinned (.plain (OpenSpec.upto wellformedChainsSpec)) wellformedChainsUptoCard

/-- THE SECOND FORM's CARD OF 'modcertlaw08.WellformedMembers'. -/
def wellformedMembersUptoCard : Claim7 := { stood := { row := wellformedMembersUptoRow, standIns := [], harness := (true, "c46f4983d80ff8c12a4ec6fe7daddba5c68a7862346d4c10149d4eca047f82ac"), looks := false }, kinds := [], alts := [], laidByText := true, laidKinds := [.data, .data, .data, .data, .pinned], laidTests := true, laidLooks := .later }
def WellformedMembersUptoCardSaid : Prop := Claim7.holds Tryz.pinned (.plain (OpenSpec.upto wellformedMembersSpec)) wellformedMembersUptoCard
end Rows
end Go.Proofs.YthhmioodienlmaaGreatDoor
