/-
  DERIVED. GIVEN WITH THE SEED: THE CARDS: each row of YteemkkmkkgfofaaGreatDoorRows.lean that lists a variable, with what it lists TIED to the program's text (the seventh form; the later family's looks); each row that meets fmt, with fmt's text TOLD by the authors' own Lean function (tested against real Go, not proved from fmt's source: count such statements apart). THE CARD IS WHAT COUNTS. Prove the row's statement (the work); the ties are given (YteemkkmkkgfofaaGreatDoorTie.lean); close each card by the builder's one call (the guide's Derived/Test/ToyasCard.lean, 'card_holds'). Laid BY PROGRAM, IN A SANDBOX (cutbox-door.mjs). By AI agents, Wed Nov 11 2026. No macro, syntax, notation, axiom, sorry.
-/
import Derived.Test.YteemkkmkkgfofaaGreatDoorRows
import GoSem.ClaimSeven
namespace Go.Proofs.YteemkkmkkgfofaaGreatDoor
namespace Rows

/-- THE TIED CARD OF 'greatseallaw15.RuleChecks'. -/
def ruleChecksCard : Claim7 := { stood := { row := ruleChecksRow, standIns := [], harness := (true, "942e48661620c8b373f59c14a2cac34119925d663a45014542f3950abb7d7bb9"), looks := true }, kinds := [], alts := [], laidByText := true, laidKinds := [.data, .data, .data, .data, .sentinel, .sentinel, .sentinel, .pinned], laidTests := true, laidLooks := .later }
def RuleChecksCardSaid : Prop := Claim7.holds Tryz.pinned (.plain (OpenSpec.ofChange ruleChecksSpec)) ruleChecksCard

/-- THE TIED CARD OF 'greatseallaw15.RulePrints'. -/
def rulePrintsCard : Claim7 := { stood := { row := rulePrintsRow, standIns := [], harness := (true, "942e48661620c8b373f59c14a2cac34119925d663a45014542f3950abb7d7bb9"), looks := true }, kinds := [], alts := [], laidByText := true, laidKinds := [.data, .data, .data, .data, .sentinel, .sentinel, .sentinel, .pinned], laidTests := true, laidLooks := .later }
def RulePrintsCardSaid : Prop := Claim7.holds Tryz.pinned (.plain (OpenSpec.ofChange rulePrintsSpec)) rulePrintsCard

/-- THE TIED CARD OF 'greatseallaw15.RuleBack'. -/
def ruleBackCard : Claim7 := { stood := { row := ruleBackRow, standIns := [], harness := (true, "942e48661620c8b373f59c14a2cac34119925d663a45014542f3950abb7d7bb9"), looks := true }, kinds := [], alts := [], laidByText := true, laidKinds := [.data, .data, .data, .data, .sentinel, .sentinel, .sentinel, .pinned], laidTests := true, laidLooks := .later }
def RuleBackCardSaid : Prop := Claim7.holds Tryz.pinned (.plain (OpenSpec.ofChange ruleBackSpec)) ruleBackCard

/-- THE TIED CARD OF 'greatseallaw15.RuleAgain'. -/
def ruleAgainCard : Claim7 := { stood := { row := ruleAgainRow, standIns := [], harness := (true, "942e48661620c8b373f59c14a2cac34119925d663a45014542f3950abb7d7bb9"), looks := true }, kinds := [], alts := [], laidByText := true, laidKinds := [.data, .data, .data, .data, .sentinel, .sentinel, .sentinel, .pinned], laidTests := true, laidLooks := .later }
def RuleAgainCardSaid : Prop := Claim7.holds Tryz.pinned (.plain (OpenSpec.ofChange ruleAgainSpec)) ruleAgainCard

/-- THE TIED CARD OF 'greatseallaw15.RuleBlanks'. -/
def ruleBlanksCard : Claim7 := { stood := { row := ruleBlanksRow, standIns := [], harness := (true, "942e48661620c8b373f59c14a2cac34119925d663a45014542f3950abb7d7bb9"), looks := true }, kinds := [], alts := [], laidByText := true, laidKinds := [.data, .data, .data, .data, .sentinel, .sentinel, .sentinel, .pinned], laidTests := true, laidLooks := .later }
def RuleBlanksCardSaid : Prop := Claim7.holds Tryz.pinned (.plain (OpenSpec.ofChange ruleBlanksSpec)) ruleBlanksCard

/-- THE TIED CARD OF 'greatseallaw15.RuleJoins'. -/
def ruleJoinsCard : Claim7 := { stood := { row := ruleJoinsRow, standIns := [], harness := (true, "942e48661620c8b373f59c14a2cac34119925d663a45014542f3950abb7d7bb9"), looks := true }, kinds := [], alts := [], laidByText := true, laidKinds := [.data, .data, .data, .data, .sentinel, .sentinel, .sentinel, .pinned], laidTests := true, laidLooks := .later }
def RuleJoinsCardSaid : Prop := Claim7.holds Tryz.pinned (.plain (OpenSpec.ofChange ruleJoinsSpec)) ruleJoinsCard

/-- THE TIED CARD OF 'greatseallaw15.RuleShort'. -/
def ruleShortCard : Claim7 := { stood := { row := ruleShortRow, standIns := [], harness := (true, "942e48661620c8b373f59c14a2cac34119925d663a45014542f3950abb7d7bb9"), looks := true }, kinds := [], alts := [], laidByText := true, laidKinds := [.data, .data, .data, .data, .sentinel, .sentinel, .sentinel, .pinned], laidTests := true, laidLooks := .later }
def RuleShortCardSaid : Prop := Claim7.holds Tryz.pinned (.plain (OpenSpec.ofChange ruleShortSpec)) ruleShortCard

/-- THE SECOND FORM's CARD OF 'greatseallaw15.RuleChecks'. -/
def ruleChecksUptoCard : Claim7 := { stood := { row := ruleChecksUptoRow, standIns := [], harness := (true, "942e48661620c8b373f59c14a2cac34119925d663a45014542f3950abb7d7bb9"), looks := true }, kinds := [], alts := [], laidByText := true, laidKinds := [.data, .data, .data, .data, .sentinel, .sentinel, .sentinel, .pinned], laidTests := true, laidLooks := .later }
def RuleChecksUptoCardSaid : Prop := Claim7.holds Tryz.pinned (.plain (OpenSpec.upto ruleChecksSpec)) ruleChecksUptoCard

/-- THE SECOND FORM's CARD OF 'greatseallaw15.RulePrints'. -/
def rulePrintsUptoCard : Claim7 := { stood := { row := rulePrintsUptoRow, standIns := [], harness := (true, "942e48661620c8b373f59c14a2cac34119925d663a45014542f3950abb7d7bb9"), looks := true }, kinds := [], alts := [], laidByText := true, laidKinds := [.data, .data, .data, .data, .sentinel, .sentinel, .sentinel, .pinned], laidTests := true, laidLooks := .later }
def RulePrintsUptoCardSaid : Prop := Claim7.holds Tryz.pinned (.plain (OpenSpec.upto rulePrintsSpec)) rulePrintsUptoCard

/-- THE SECOND FORM's CARD OF 'greatseallaw15.RuleBack'. -/
def ruleBackUptoCard : Claim7 := { stood := { row := ruleBackUptoRow, standIns := [], harness := (true, "942e48661620c8b373f59c14a2cac34119925d663a45014542f3950abb7d7bb9"), looks := true }, kinds := [], alts := [], laidByText := true, laidKinds := [.data, .data, .data, .data, .sentinel, .sentinel, .sentinel, .pinned], laidTests := true, laidLooks := .later }
def RuleBackUptoCardSaid : Prop := Claim7.holds Tryz.pinned (.plain (OpenSpec.upto ruleBackSpec)) ruleBackUptoCard

/-- THE SECOND FORM's CARD OF 'greatseallaw15.RuleAgain'. -/
def ruleAgainUptoCard : Claim7 := { stood := { row := ruleAgainUptoRow, standIns := [], harness := (true, "942e48661620c8b373f59c14a2cac34119925d663a45014542f3950abb7d7bb9"), looks := true }, kinds := [], alts := [], laidByText := true, laidKinds := [.data, .data, .data, .data, .sentinel, .sentinel, .sentinel, .pinned], laidTests := true, laidLooks := .later }
def RuleAgainUptoCardSaid : Prop := Claim7.holds Tryz.pinned (.plain (OpenSpec.upto ruleAgainSpec)) ruleAgainUptoCard

/-- THE SECOND FORM's CARD OF 'greatseallaw15.RuleBlanks'. -/
def ruleBlanksUptoCard : Claim7 := { stood := { row := ruleBlanksUptoRow, standIns := [], harness := (true, "942e48661620c8b373f59c14a2cac34119925d663a45014542f3950abb7d7bb9"), looks := true }, kinds := [], alts := [], laidByText := true, laidKinds := [.data, .data, .data, .data, .sentinel, .sentinel, .sentinel, .pinned], laidTests := true, laidLooks := .later }
def RuleBlanksUptoCardSaid : Prop := Claim7.holds Tryz.pinned (.plain (OpenSpec.upto ruleBlanksSpec)) ruleBlanksUptoCard

/-- THE SECOND FORM's CARD OF 'greatseallaw15.RuleJoins'. -/
def ruleJoinsUptoCard : Claim7 := { stood := { row := ruleJoinsUptoRow, standIns := [], harness := (true, "942e48661620c8b373f59c14a2cac34119925d663a45014542f3950abb7d7bb9"), looks := true }, kinds := [], alts := [], laidByText := true, laidKinds := [.data, .data, .data, .data, .sentinel, .sentinel, .sentinel, .pinned], laidTests := true, laidLooks := .later }
def RuleJoinsUptoCardSaid : Prop := Claim7.holds Tryz.pinned (.plain (OpenSpec.upto ruleJoinsSpec)) ruleJoinsUptoCard

/-- THE SECOND FORM's CARD OF 'greatseallaw15.RuleShort'. -/
def ruleShortUptoCard : Claim7 := { stood := { row := ruleShortUptoRow, standIns := [], harness := (true, "942e48661620c8b373f59c14a2cac34119925d663a45014542f3950abb7d7bb9"), looks := true }, kinds := [], alts := [], laidByText := true, laidKinds := [.data, .data, .data, .data, .sentinel, .sentinel, .sentinel, .pinned], laidTests := true, laidLooks := .later }
def RuleShortUptoCardSaid : Prop := Claim7.holds Tryz.pinned (.plain (OpenSpec.upto ruleShortSpec)) ruleShortUptoCard
end Rows
end Go.Proofs.YteemkkmkkgfofaaGreatDoor
