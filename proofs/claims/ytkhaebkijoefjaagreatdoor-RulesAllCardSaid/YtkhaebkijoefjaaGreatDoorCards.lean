/-
  DERIVED. GIVEN WITH THE SEED: THE CARDS: each row of YtkhaebkijoefjaaGreatDoorRows.lean that lists a variable, with what it lists TIED to the program's text (the seventh form; the later family's looks); each row that meets fmt, with fmt's text TOLD by the authors' own Lean function (tested against real Go, not proved from fmt's source: count such statements apart). THE CARD IS WHAT COUNTS. Prove the row's statement (the work); the ties are given (YtkhaebkijoefjaaGreatDoorTie.lean); close each card by the builder's one call (the guide's Derived/Test/ToyasCard.lean, 'card_holds'). Laid BY PROGRAM, IN A SANDBOX (cutbox-door.mjs). By AI agents, Wed Nov 11 2026. No macro, syntax, notation, axiom, sorry.
-/
import Derived.Test.YtkhaebkijoefjaaGreatDoorRows
import GoSem.ClaimSeven
namespace Go.Proofs.YtkhaebkijoefjaaGreatDoor
namespace Rows

/-- THE TIED CARD OF 'sorrellaw17.RulesAll'. -/
def rulesAllCard : Claim7 := { stood := { row := rulesAllRow, standIns := [], harness := (true, "8ca11509afc0d0d39fe2e426f1dd0341854dfb5d3b0b1cd08918a8cb1ad49a94"), looks := true }, kinds := [], alts := [], laidByText := true, laidKinds := [.data, .listed, .data, .data, .data, .pinned], laidTests := true, laidLooks := .later }
def RulesAllCardSaid : Prop := Claim7.holds Tryz.pinned (.plain (OpenSpec.ofChange rulesAllSpec)) rulesAllCard

/-- THE TIED CARD OF 'sorrellaw17.RulesPlays'. -/
def rulesPlaysCard : Claim7 := { stood := { row := rulesPlaysRow, standIns := [], harness := (true, "8ca11509afc0d0d39fe2e426f1dd0341854dfb5d3b0b1cd08918a8cb1ad49a94"), looks := true }, kinds := [], alts := [], laidByText := true, laidKinds := [.data, .listed, .data, .data, .data, .pinned], laidTests := true, laidLooks := .later }
def RulesPlaysCardSaid : Prop := Claim7.holds Tryz.pinned (.plain (OpenSpec.ofChange rulesPlaysSpec)) rulesPlaysCard

/-- THE TIED CARD OF 'sorrellaw17.RulesMatches'. -/
def rulesMatchesCard : Claim7 := { stood := { row := rulesMatchesRow, standIns := [], harness := (true, "8ca11509afc0d0d39fe2e426f1dd0341854dfb5d3b0b1cd08918a8cb1ad49a94"), looks := true }, kinds := [], alts := [], laidByText := true, laidKinds := [.data, .listed, .data, .data, .data, .pinned], laidTests := true, laidLooks := .later }
def RulesMatchesCardSaid : Prop := Claim7.holds Tryz.pinned (.plain (OpenSpec.ofChange rulesMatchesSpec)) rulesMatchesCard

/-- THE TIED CARD OF 'sorrellaw17.RulesChosen'. -/
def rulesChosenCard : Claim7 := { stood := { row := rulesChosenRow, standIns := [], harness := (true, "8ca11509afc0d0d39fe2e426f1dd0341854dfb5d3b0b1cd08918a8cb1ad49a94"), looks := true }, kinds := [], alts := [], laidByText := true, laidKinds := [.data, .listed, .data, .data, .data, .pinned], laidTests := true, laidLooks := .later }
def RulesChosenCardSaid : Prop := Claim7.holds Tryz.pinned (.plain (OpenSpec.ofChange rulesChosenSpec)) rulesChosenCard

/-- THE TIED CARD OF 'sorrellaw17.RulesKeeps'. -/
def rulesKeepsCard : Claim7 := { stood := { row := rulesKeepsRow, standIns := [], harness := (true, "8ca11509afc0d0d39fe2e426f1dd0341854dfb5d3b0b1cd08918a8cb1ad49a94"), looks := true }, kinds := [], alts := [], laidByText := true, laidKinds := [.data, .listed, .data, .data, .data, .pinned], laidTests := true, laidLooks := .later }
def RulesKeepsCardSaid : Prop := Claim7.holds Tryz.pinned (.plain (OpenSpec.ofChange rulesKeepsSpec)) rulesKeepsCard

/-- THE SECOND FORM's CARD OF 'sorrellaw17.RulesAll'. -/
def rulesAllUptoCard : Claim7 := { stood := { row := rulesAllUptoRow, standIns := [], harness := (true, "8ca11509afc0d0d39fe2e426f1dd0341854dfb5d3b0b1cd08918a8cb1ad49a94"), looks := true }, kinds := [], alts := [], laidByText := true, laidKinds := [.data, .listed, .data, .data, .data, .pinned], laidTests := true, laidLooks := .later }
def RulesAllUptoCardSaid : Prop := Claim7.holds Tryz.pinned (.plain (OpenSpec.upto rulesAllSpec)) rulesAllUptoCard

/-- THE SECOND FORM's CARD OF 'sorrellaw17.RulesPlays'. -/
def rulesPlaysUptoCard : Claim7 := { stood := { row := rulesPlaysUptoRow, standIns := [], harness := (true, "8ca11509afc0d0d39fe2e426f1dd0341854dfb5d3b0b1cd08918a8cb1ad49a94"), looks := true }, kinds := [], alts := [], laidByText := true, laidKinds := [.data, .listed, .data, .data, .data, .pinned], laidTests := true, laidLooks := .later }
def RulesPlaysUptoCardSaid : Prop := Claim7.holds Tryz.pinned (.plain (OpenSpec.upto rulesPlaysSpec)) rulesPlaysUptoCard

/-- THE SECOND FORM's CARD OF 'sorrellaw17.RulesMatches'. -/
def rulesMatchesUptoCard : Claim7 := { stood := { row := rulesMatchesUptoRow, standIns := [], harness := (true, "8ca11509afc0d0d39fe2e426f1dd0341854dfb5d3b0b1cd08918a8cb1ad49a94"), looks := true }, kinds := [], alts := [], laidByText := true, laidKinds := [.data, .listed, .data, .data, .data, .pinned], laidTests := true, laidLooks := .later }
def RulesMatchesUptoCardSaid : Prop := Claim7.holds Tryz.pinned (.plain (OpenSpec.upto rulesMatchesSpec)) rulesMatchesUptoCard

/-- THE SECOND FORM's CARD OF 'sorrellaw17.RulesChosen'. -/
def rulesChosenUptoCard : Claim7 := { stood := { row := rulesChosenUptoRow, standIns := [], harness := (true, "8ca11509afc0d0d39fe2e426f1dd0341854dfb5d3b0b1cd08918a8cb1ad49a94"), looks := true }, kinds := [], alts := [], laidByText := true, laidKinds := [.data, .listed, .data, .data, .data, .pinned], laidTests := true, laidLooks := .later }
def RulesChosenUptoCardSaid : Prop := Claim7.holds Tryz.pinned (.plain (OpenSpec.upto rulesChosenSpec)) rulesChosenUptoCard

/-- THE SECOND FORM's CARD OF 'sorrellaw17.RulesKeeps'. -/
def rulesKeepsUptoCard : Claim7 := { stood := { row := rulesKeepsUptoRow, standIns := [], harness := (true, "8ca11509afc0d0d39fe2e426f1dd0341854dfb5d3b0b1cd08918a8cb1ad49a94"), looks := true }, kinds := [], alts := [], laidByText := true, laidKinds := [.data, .listed, .data, .data, .data, .pinned], laidTests := true, laidLooks := .later }
def RulesKeepsUptoCardSaid : Prop := Claim7.holds Tryz.pinned (.plain (OpenSpec.upto rulesKeepsSpec)) rulesKeepsUptoCard
end Rows
end Go.Proofs.YtkhaebkijoefjaaGreatDoor
