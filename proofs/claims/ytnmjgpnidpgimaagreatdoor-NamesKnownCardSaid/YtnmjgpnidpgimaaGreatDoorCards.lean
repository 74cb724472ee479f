/-
  DERIVED. GIVEN WITH THE SEED: THE CARDS: each row of YtnmjgpnidpgimaaGreatDoorRows.lean that lists a variable, with what it lists TIED to the program's text (the seventh form; the later family's looks); each row that meets fmt, with fmt's text TOLD by the authors' own Lean function (tested against real Go, not proved from fmt's source: count such statements apart). THE CARD IS WHAT COUNTS. Prove the row's statement (the work); the ties are given (YtnmjgpnidpgimaaGreatDoorTie.lean); close each card by the builder's one call (the guide's Derived/Test/ToyasCard.lean, 'card_holds'). Laid BY PROGRAM, IN A SANDBOX (cutbox-door.mjs). By AI agents, Wed Nov 11 2026. No macro, syntax, notation, axiom, sorry.
-/
import Derived.Test.YtnmjgpnidpgimaaGreatDoorRows
import GoSem.ClaimSeven
namespace Go.Proofs.YtnmjgpnidpgimaaGreatDoor
namespace Rows

/-- THE TIED CARD OF 'deadboltlaw7.NamesChecks'. -/
def namesChecksCard : Claim7 := { stood := { row := namesChecksRow, standIns := [], harness := (true, "1b635f65bc46637da749f7662c98ad8229e5b2ba339f4e41d1d72fed02fdd446"), looks := true }, kinds := [], alts := [], laidByText := true, laidKinds := [.handle, .listed, .data], laidTests := true, laidLooks := .later }
def NamesChecksCardSaid : Prop := Claim7.holds Tryz.pinned (.plain (OpenSpec.ofChange namesChecksSpec)) namesChecksCard

/-- THE TIED CARD OF 'deadboltlaw7.NamesJoins'. -/
def namesJoinsCard : Claim7 := { stood := { row := namesJoinsRow, standIns := [], harness := (true, "1b635f65bc46637da749f7662c98ad8229e5b2ba339f4e41d1d72fed02fdd446"), looks := true }, kinds := [], alts := [], laidByText := true, laidKinds := [.handle, .listed, .data], laidTests := true, laidLooks := .later }
def NamesJoinsCardSaid : Prop := Claim7.holds Tryz.pinned (.plain (OpenSpec.ofChange namesJoinsSpec)) namesJoinsCard

/-- THE TIED CARD OF 'deadboltlaw7.NamesMany'. -/
def namesManyCard : Claim7 := { stood := { row := namesManyRow, standIns := [], harness := (true, "1b635f65bc46637da749f7662c98ad8229e5b2ba339f4e41d1d72fed02fdd446"), looks := true }, kinds := [], alts := [], laidByText := true, laidKinds := [.handle, .listed, .data], laidTests := true, laidLooks := .later }
def NamesManyCardSaid : Prop := Claim7.holds Tryz.pinned (.plain (OpenSpec.ofChange namesManySpec)) namesManyCard

/-- THE TIED CARD OF 'deadboltlaw7.NamesKnown'. -/
def namesKnownCard : Claim7 := { stood := { row := namesKnownRow, standIns := [], harness := (true, "1b635f65bc46637da749f7662c98ad8229e5b2ba339f4e41d1d72fed02fdd446"), looks := true }, kinds := [], alts := [], laidByText := true, laidKinds := [.handle, .listed, .data], laidTests := true, laidLooks := .later }
def NamesKnownCardSaid : Prop := Claim7.holds Tryz.pinned (.plain (OpenSpec.ofChange namesKnownSpec)) namesKnownCard

/-- THE TIED CARD OF 'deadboltlaw7.NamesOrder'. -/
def namesOrderCard : Claim7 := { stood := { row := namesOrderRow, standIns := [], harness := (true, "1b635f65bc46637da749f7662c98ad8229e5b2ba339f4e41d1d72fed02fdd446"), looks := true }, kinds := [], alts := [], laidByText := true, laidKinds := [.handle, .listed, .data], laidTests := true, laidLooks := .later }
def NamesOrderCardSaid : Prop := Claim7.holds Tryz.pinned (.plain (OpenSpec.ofChange namesOrderSpec)) namesOrderCard

/-- THE TIED CARD OF 'deadboltlaw7.NamesKinds'. -/
def namesKindsCard : Claim7 := { stood := { row := namesKindsRow, standIns := [], harness := (true, "1b635f65bc46637da749f7662c98ad8229e5b2ba339f4e41d1d72fed02fdd446"), looks := true }, kinds := [], alts := [], laidByText := true, laidKinds := [.handle, .listed, .data], laidTests := true, laidLooks := .later }
def NamesKindsCardSaid : Prop := Claim7.holds Tryz.pinned (.plain (OpenSpec.ofChange namesKindsSpec)) namesKindsCard

/-- THE TIED CARD OF 'deadboltlaw11.DetectOrder'. -/
def detectOrderCard : Claim7 := { stood := { row := detectOrderRow, standIns := [], harness := (true, "1b635f65bc46637da749f7662c98ad8229e5b2ba339f4e41d1d72fed02fdd446"), looks := true }, kinds := [], alts := [], laidByText := true, laidKinds := [.data, .data, .data], laidTests := true, laidLooks := .later }
def DetectOrderCardSaid : Prop := Claim7.holds Tryz.pinned (.plain (OpenSpec.ofChange detectOrderSpec)) detectOrderCard

/-- THE TIED CARD OF 'deadboltlaw11.DetectKnown'. -/
def detectKnownCard : Claim7 := { stood := { row := detectKnownRow, standIns := [], harness := (true, "1b635f65bc46637da749f7662c98ad8229e5b2ba339f4e41d1d72fed02fdd446"), looks := true }, kinds := [], alts := [], laidByText := true, laidKinds := [.data, .data, .data], laidTests := true, laidLooks := .later }
def DetectKnownCardSaid : Prop := Claim7.holds Tryz.pinned (.plain (OpenSpec.ofChange detectKnownSpec)) detectKnownCard

/-- THE SECOND FORM's CARD OF 'deadboltlaw7.NamesChecks'. -/
def namesChecksUptoCard : Claim7 := { stood := { row := namesChecksUptoRow, standIns := [], harness := (true, "1b635f65bc46637da749f7662c98ad8229e5b2ba339f4e41d1d72fed02fdd446"), looks := true }, kinds := [], alts := [], laidByText := true, laidKinds := [.handle, .listed, .data], laidTests := true, laidLooks := .later }
def NamesChecksUptoCardSaid : Prop := Claim7.holds Tryz.pinned (.plain (OpenSpec.upto namesChecksSpec)) namesChecksUptoCard

/-- THE SECOND FORM's CARD OF 'deadboltlaw7.NamesJoins'. -/
def namesJoinsUptoCard : Claim7 := { stood := { row := namesJoinsUptoRow, standIns := [], harness := (true, "1b635f65bc46637da749f7662c98ad8229e5b2ba339f4e41d1d72fed02fdd446"), looks := true }, kinds := [], alts := [], laidByText := true, laidKinds := [.handle, .listed, .data], laidTests := true, laidLooks := .later }
def NamesJoinsUptoCardSaid : Prop := Claim7.holds Tryz.pinned (.plain (OpenSpec.upto namesJoinsSpec)) namesJoinsUptoCard

/-- THE SECOND FORM's CARD OF 'deadboltlaw7.NamesMany'. -/
def namesManyUptoCard : Claim7 := { stood := { row := namesManyUptoRow, standIns := [], harness := (true, "1b635f65bc46637da749f7662c98ad8229e5b2ba339f4e41d1d72fed02fdd446"), looks := true }, kinds := [], alts := [], laidByText := true, laidKinds := [.handle, .listed, .data], laidTests := true, laidLooks := .later }
def NamesManyUptoCardSaid : Prop := Claim7.holds Tryz.pinned (.plain (OpenSpec.upto namesManySpec)) namesManyUptoCard

/-- THE SECOND FORM's CARD OF 'deadboltlaw7.NamesKnown'. -/
def namesKnownUptoCard : Claim7 := { stood := { row := namesKnownUptoRow, standIns := [], harness := (true, "1b635f65bc46637da749f7662c98ad8229e5b2ba339f4e41d1d72fed02fdd446"), looks := true }, kinds := [], alts := [], laidByText := true, laidKinds := [.handle, .listed, .data], laidTests := true, laidLooks := .later }
def NamesKnownUptoCardSaid : Prop := Claim7.holds Tryz.pinned (.plain (OpenSpec.upto namesKnownSpec)) namesKnownUptoCard

/-- THE SECOND FORM's CARD OF 'deadboltlaw7.NamesOrder'. -/
def namesOrderUptoCard : Claim7 := { stood := { row := namesOrderUptoRow, standIns := [], harness := (true, "1b635f65bc46637da749f7662c98ad8229e5b2ba339f4e41d1d72fed02fdd446"), looks := true }, kinds := [], alts := [], laidByText := true, laidKinds := [.handle, .listed, .data], laidTests := true, laidLooks := .later }
def NamesOrderUptoCardSaid : Prop := Claim7.holds Tryz.pinned (.plain (OpenSpec.upto namesOrderSpec)) namesOrderUptoCard

/-- THE SECOND FORM's CARD OF 'deadboltlaw7.NamesKinds'. -/
def namesKindsUptoCard : Claim7 := { stood := { row := namesKindsUptoRow, standIns := [], harness := (true, "1b635f65bc46637da749f7662c98ad8229e5b2ba339f4e41d1d72fed02fdd446"), looks := true }, kinds := [], alts := [], laidByText := true, laidKinds := [.handle, .listed, .data], laidTests := true, laidLooks := .later }
def NamesKindsUptoCardSaid : Prop := Claim7.holds Tryz.pinned (.plain (OpenSpec.upto namesKindsSpec)) namesKindsUptoCard

/-- THE SECOND FORM's CARD OF 'deadboltlaw11.DetectOrder'. -/
def detectOrderUptoCard : Claim7 := { stood := { row := detectOrderUptoRow, standIns := [], harness := (true, "1b635f65bc46637da749f7662c98ad8229e5b2ba339f4e41d1d72fed02fdd446"), looks := true }, kinds := [], alts := [], laidByText := true, laidKinds := [.data, .data, .data], laidTests := true, laidLooks := .later }
def DetectOrderUptoCardSaid : Prop := Claim7.holds Tryz.pinned (.plain (OpenSpec.upto detectOrderSpec)) detectOrderUptoCard

/-- THE SECOND FORM's CARD OF 'deadboltlaw11.DetectKnown'. -/
def detectKnownUptoCard : Claim7 := { stood := { row := detectKnownUptoRow, standIns := [], harness := (true, "1b635f65bc46637da749f7662c98ad8229e5b2ba339f4e41d1d72fed02fdd446"), looks := true }, kinds := [], alts := [], laidByText := true, laidKinds := [.data, .data, .data], laidTests := true, laidLooks := .later }
def DetectKnownUptoCardSaid : Prop := Claim7.holds Tryz.pinned (.plain (OpenSpec.upto detectKnownSpec)) detectKnownUptoCard
end Rows
end Go.Proofs.YtnmjgpnidpgimaaGreatDoor
