/-
  DERIVED. GIVEN WITH THE SEED: THE CARDS: each row of YtfkamoiamebngaaGreatDoorRows.lean that lists a variable, with what it lists TIED to the program's text (the seventh form; the later family's looks); each row that meets fmt, with fmt's text TOLD by the authors' own Lean function (tested against real Go, not proved from fmt's source: count such statements apart). THE CARD IS WHAT COUNTS. Prove the row's statement (the work); the ties are given (YtfkamoiamebngaaGreatDoorTie.lean); close each card by the builder's one call (the guide's Derived/Test/ToyasCard.lean, 'card_holds'). Laid BY PROGRAM, IN A SANDBOX (cutbox-door.mjs). By AI agents, Wed Nov 11 2026. No macro, syntax, notation, axiom, sorry.
-/
import Derived.Test.YtfkamoiamebngaaGreatDoorRows
import GoSem.ClaimSeven
namespace Go.Proofs.YtfkamoiamebngaaGreatDoor
namespace Rows

/-- THE TIED CARD OF 'kibitzertop.WholeInput'. -/
def wholeInputCard : Claim7 := { stood := { row := wholeInputRow, standIns := [], harness := (true, "b7a23f3f368572dcbfca7fbf3647117a06bbe60edbc6d71d68e3d0a3f79b162f"), looks := true }, kinds := [], alts := [], laidByText := true, laidKinds := [.data, .data, .data, .sentinel, .sentinel], laidTests := true, laidLooks := .later }
def WholeInputCardSaid : Prop := Claim7.holds Tryz.pinned (.plain (OpenSpec.ofChange wholeInputSpec)) wholeInputCard

/-- THE TIED CARD OF 'kibitzertop.WholeApart'. -/
def wholeApartCard : Claim7 := { stood := { row := wholeApartRow, standIns := [], harness := (true, "b7a23f3f368572dcbfca7fbf3647117a06bbe60edbc6d71d68e3d0a3f79b162f"), looks := true }, kinds := [], alts := [], laidByText := true, laidKinds := [.data, .data, .data, .sentinel, .sentinel], laidTests := true, laidLooks := .later }
def WholeApartCardSaid : Prop := Claim7.holds Tryz.pinned (.plain (OpenSpec.ofChange wholeApartSpec)) wholeApartCard

/-- THE TIED CARD OF 'kibitzertop.WholeStays'. -/
def wholeStaysCard : Claim7 := { stood := { row := wholeStaysRow, standIns := [], harness := (true, "b7a23f3f368572dcbfca7fbf3647117a06bbe60edbc6d71d68e3d0a3f79b162f"), looks := true }, kinds := [], alts := [], laidByText := true, laidKinds := [.data, .data, .data, .sentinel, .sentinel], laidTests := true, laidLooks := .later }
def WholeStaysCardSaid : Prop := Claim7.holds Tryz.pinned (.plain (OpenSpec.ofChange wholeStaysSpec)) wholeStaysCard

/-- THE TIED CARD OF 'kibitzertop.WholeDenied'. -/
def wholeDeniedCard : Claim7 := { stood := { row := wholeDeniedRow, standIns := [], harness := (true, "b7a23f3f368572dcbfca7fbf3647117a06bbe60edbc6d71d68e3d0a3f79b162f"), looks := true }, kinds := [], alts := [], laidByText := true, laidKinds := [.data, .data, .data, .sentinel, .sentinel], laidTests := true, laidLooks := .later }
def WholeDeniedCardSaid : Prop := Claim7.holds Tryz.pinned (.plain (OpenSpec.ofChange wholeDeniedSpec)) wholeDeniedCard

/-- THE TIED CARD OF 'kibitzertop.WholeWaits'. -/
def wholeWaitsCard : Claim7 := { stood := { row := wholeWaitsRow, standIns := [], harness := (true, "b7a23f3f368572dcbfca7fbf3647117a06bbe60edbc6d71d68e3d0a3f79b162f"), looks := true }, kinds := [], alts := [], laidByText := true, laidKinds := [.data, .data, .data, .sentinel, .sentinel], laidTests := true, laidLooks := .later }
def WholeWaitsCardSaid : Prop := Claim7.holds Tryz.pinned (.plain (OpenSpec.ofChange wholeWaitsSpec)) wholeWaitsCard

/-- THE TIED CARD OF 'kibitzertop.WholeKick'. -/
def wholeKickCard : Claim7 := { stood := { row := wholeKickRow, standIns := [], harness := (true, "b7a23f3f368572dcbfca7fbf3647117a06bbe60edbc6d71d68e3d0a3f79b162f"), looks := true }, kinds := [], alts := [], laidByText := true, laidKinds := [.data, .data, .data, .sentinel, .sentinel], laidTests := true, laidLooks := .later }
def WholeKickCardSaid : Prop := Claim7.holds Tryz.pinned (.plain (OpenSpec.ofChange wholeKickSpec)) wholeKickCard

/-- THE SECOND FORM's CARD OF 'kibitzertop.WholeInput'. -/
def wholeInputUptoCard : Claim7 := { stood := { row := wholeInputUptoRow, standIns := [], harness := (true, "b7a23f3f368572dcbfca7fbf3647117a06bbe60edbc6d71d68e3d0a3f79b162f"), looks := true }, kinds := [], alts := [], laidByText := true, laidKinds := [.data, .data, .data, .sentinel, .sentinel], laidTests := true, laidLooks := .later }
def WholeInputUptoCardSaid : Prop := Claim7.holds Tryz.pinned (.plain (OpenSpec.upto wholeInputSpec)) wholeInputUptoCard

/-- THE SECOND FORM's CARD OF 'kibitzertop.WholeApart'. -/
def wholeApartUptoCard : Claim7 := { stood := { row := wholeApartUptoRow, standIns := [], harness := (true, "b7a23f3f368572dcbfca7fbf3647117a06bbe60edbc6d71d68e3d0a3f79b162f"), looks := true }, kinds := [], alts := [], laidByText := true, laidKinds := [.data, .data, .data, .sentinel, .sentinel], laidTests := true, laidLooks := .later }
def WholeApartUptoCardSaid : Prop := Claim7.holds Tryz.pinned (.plain (OpenSpec.upto wholeApartSpec)) wholeApartUptoCard

/-- THE SECOND FORM's CARD OF 'kibitzertop.WholeStays'. -/
def wholeStaysUptoCard : Claim7 := { stood := { row := wholeStaysUptoRow, standIns := [], harness := (true, "b7a23f3f368572dcbfca7fbf3647117a06bbe60edbc6d71d68e3d0a3f79b162f"), looks := true }, kinds := [], alts := [], laidByText := true, laidKinds := [.data, .data, .data, .sentinel, .sentinel], laidTests := true, laidLooks := .later }
def WholeStaysUptoCardSaid : Prop := Claim7.holds Tryz.pinned (.plain (OpenSpec.upto wholeStaysSpec)) wholeStaysUptoCard

/-- THE SECOND FORM's CARD OF 'kibitzertop.WholeDenied'. -/
def wholeDeniedUptoCard : Claim7 := { stood := { row := wholeDeniedUptoRow, standIns := [], harness := (true, "b7a23f3f368572dcbfca7fbf3647117a06bbe60edbc6d71d68e3d0a3f79b162f"), looks := true }, kinds := [], alts := [], laidByText := true, laidKinds := [.data, .data, .data, .sentinel, .sentinel], laidTests := true, laidLooks := .later }
def WholeDeniedUptoCardSaid : Prop := Claim7.holds Tryz.pinned (.plain (OpenSpec.upto wholeDeniedSpec)) wholeDeniedUptoCard

/-- THE SECOND FORM's CARD OF 'kibitzertop.WholeWaits'. -/
def wholeWaitsUptoCard : Claim7 := { stood := { row := wholeWaitsUptoRow, standIns := [], harness := (true, "b7a23f3f368572dcbfca7fbf3647117a06bbe60edbc6d71d68e3d0a3f79b162f"), looks := true }, kinds := [], alts := [], laidByText := true, laidKinds := [.data, .data, .data, .sentinel, .sentinel], laidTests := true, laidLooks := .later }
def WholeWaitsUptoCardSaid : Prop := Claim7.holds Tryz.pinned (.plain (OpenSpec.upto wholeWaitsSpec)) wholeWaitsUptoCard

/-- THE SECOND FORM's CARD OF 'kibitzertop.WholeKick'. -/
def wholeKickUptoCard : Claim7 := { stood := { row := wholeKickUptoRow, standIns := [], harness := (true, "b7a23f3f368572dcbfca7fbf3647117a06bbe60edbc6d71d68e3d0a3f79b162f"), looks := true }, kinds := [], alts := [], laidByText := true, laidKinds := [.data, .data, .data, .sentinel, .sentinel], laidTests := true, laidLooks := .later }
def WholeKickUptoCardSaid : Prop := Claim7.holds Tryz.pinned (.plain (OpenSpec.upto wholeKickSpec)) wholeKickUptoCard
end Rows
end Go.Proofs.YtfkamoiamebngaaGreatDoor
