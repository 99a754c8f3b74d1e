/-
  DERIVED. GIVEN WITH THE SEED: THE CARDS: each row of YtmdmbdbbpdojnaaGreatDoorRows.lean that lists a variable, with what it lists TIED to the program's text (the seventh form; the later family's looks); each row that meets fmt, with fmt's text TOLD by the authors' own Lean function (tested against real Go, not proved from fmt's source: count such statements apart). THE CARD IS WHAT COUNTS. Prove the row's statement (the work); the ties are given (YtmdmbdbbpdojnaaGreatDoorTie.lean); close each card by the builder's one call (the guide's Derived/Test/ToyasCard.lean, 'card_holds'). Laid BY PROGRAM, IN A SANDBOX (cutbox-door.mjs). By AI agents, Wed Nov 11 2026. No macro, syntax, notation, axiom, sorry.
-/
import Derived.Test.YtmdmbdbbpdojnaaGreatDoorRows
import GoSem.ClaimSeven
namespace Go.Proofs.YtmdmbdbbpdojnaaGreatDoor
namespace Rows

/-- THE TIED CARD OF 'greatseallaw16.PolicyMeans'. -/
def policyMeansCard : Claim7 := { stood := { row := policyMeansRow, standIns := [], harness := (true, "5c29536858e7b6ff26c9aac6ead60e8ec123df2c0ab2a42d67a8cdbe1d40a062"), looks := false }, kinds := [], alts := [], laidByText := true, laidKinds := [.data, .pinned], laidTests := true, laidLooks := .later }
def PolicyMeansCardSaid : Prop := Claim7.holds Tryz.pinned (.plain (OpenSpec.ofChange policyMeansSpec)) policyMeansCard

/-- THE TIED CARD OF 'greatseallaw16.PolicyCompiles'. -/
def policyCompilesCard : Claim7 := { stood := { row := policyCompilesRow, standIns := [], harness := (true, "5c29536858e7b6ff26c9aac6ead60e8ec123df2c0ab2a42d67a8cdbe1d40a062"), looks := false }, kinds := [], alts := [], laidByText := true, laidKinds := [.data, .pinned], laidTests := true, laidLooks := .later }
def PolicyCompilesCardSaid : Prop := Claim7.holds Tryz.pinned (.plain (OpenSpec.ofChange policyCompilesSpec)) policyCompilesCard

/-- THE TIED CARD OF 'greatseallaw16.PolicySame'. -/
def policySameCard : Claim7 := { stood := { row := policySameRow, standIns := [], harness := (true, "5c29536858e7b6ff26c9aac6ead60e8ec123df2c0ab2a42d67a8cdbe1d40a062"), looks := false }, kinds := [], alts := [], laidByText := true, laidKinds := [.data, .pinned], laidTests := true, laidLooks := .later }
def PolicySameCardSaid : Prop := Claim7.holds Tryz.pinned (.plain (OpenSpec.ofChange policySameSpec)) policySameCard

/-- THE TIED CARD OF 'greatseallaw16.PolicyEach'. -/
def policyEachCard : Claim7 := { stood := { row := policyEachRow, standIns := [], harness := (true, "5c29536858e7b6ff26c9aac6ead60e8ec123df2c0ab2a42d67a8cdbe1d40a062"), looks := false }, kinds := [], alts := [], laidByText := true, laidKinds := [.data, .pinned], laidTests := true, laidLooks := .later }
def PolicyEachCardSaid : Prop := Claim7.holds Tryz.pinned (.plain (OpenSpec.ofChange policyEachSpec)) policyEachCard

/-- THE TIED CARD OF 'greatseallaw16.PolicyOrder'. -/
def policyOrderCard : Claim7 := { stood := { row := policyOrderRow, standIns := [], harness := (true, "5c29536858e7b6ff26c9aac6ead60e8ec123df2c0ab2a42d67a8cdbe1d40a062"), looks := false }, kinds := [], alts := [], laidByText := true, laidKinds := [.data, .pinned], laidTests := true, laidLooks := .later }
def PolicyOrderCardSaid : Prop := Claim7.holds Tryz.pinned (.plain (OpenSpec.ofChange policyOrderSpec)) policyOrderCard

/-- THE TIED CARD OF 'greatseallaw16.PolicyEases'. -/
def policyEasesCard : Claim7 := { stood := { row := policyEasesRow, standIns := [], harness := (true, "5c29536858e7b6ff26c9aac6ead60e8ec123df2c0ab2a42d67a8cdbe1d40a062"), looks := false }, kinds := [], alts := [], laidByText := true, laidKinds := [.data, .pinned], laidTests := true, laidLooks := .later }
def PolicyEasesCardSaid : Prop := Claim7.holds Tryz.pinned (.plain (OpenSpec.ofChange policyEasesSpec)) policyEasesCard

/-- THE TIED CARD OF 'greatseallaw16.PolicyClashes'. -/
def policyClashesCard : Claim7 := { stood := { row := policyClashesRow, standIns := [], harness := (true, "5c29536858e7b6ff26c9aac6ead60e8ec123df2c0ab2a42d67a8cdbe1d40a062"), looks := false }, kinds := [], alts := [], laidByText := true, laidKinds := [.data, .pinned], laidTests := true, laidLooks := .later }
def PolicyClashesCardSaid : Prop := Claim7.holds Tryz.pinned (.plain (OpenSpec.ofChange policyClashesSpec)) policyClashesCard

/-- THE TIED CARD OF 'greatseallaw16.PolicyTable'. -/
def policyTableCard : Claim7 := { stood := { row := policyTableRow, standIns := [], harness := (true, "5c29536858e7b6ff26c9aac6ead60e8ec123df2c0ab2a42d67a8cdbe1d40a062"), looks := false }, kinds := [], alts := [], laidByText := true, laidKinds := [.data, .pinned], laidTests := true, laidLooks := .later }
def PolicyTableCardSaid : Prop := Claim7.holds Tryz.pinned (.plain (OpenSpec.ofChange policyTableSpec)) policyTableCard

/-- THE TIED CARD OF 'greatseallaw16.PolicyMore'. -/
def policyMoreCard : Claim7 := { stood := { row := policyMoreRow, standIns := [], harness := (true, "5c29536858e7b6ff26c9aac6ead60e8ec123df2c0ab2a42d67a8cdbe1d40a062"), looks := false }, kinds := [], alts := [], laidByText := true, laidKinds := [.data, .pinned], laidTests := true, laidLooks := .later }
def PolicyMoreCardSaid : Prop := Claim7.holds Tryz.pinned (.plain (OpenSpec.ofChange policyMoreSpec)) policyMoreCard

/-- THE TIED CARD OF 'greatseallaw16.PolicyNearest'. -/
def policyNearestCard : Claim7 := { stood := { row := policyNearestRow, standIns := [], harness := (true, "5c29536858e7b6ff26c9aac6ead60e8ec123df2c0ab2a42d67a8cdbe1d40a062"), looks := false }, kinds := [], alts := [], laidByText := true, laidKinds := [.data, .pinned], laidTests := true, laidLooks := .later }
def PolicyNearestCardSaid : Prop := Claim7.holds Tryz.pinned (.plain (OpenSpec.ofChange policyNearestSpec)) policyNearestCard

/-- THE SECOND FORM's CARD OF 'greatseallaw16.PolicyMeans'. -/
def policyMeansUptoCard : Claim7 := { stood := { row := policyMeansUptoRow, standIns := [], harness := (true, "5c29536858e7b6ff26c9aac6ead60e8ec123df2c0ab2a42d67a8cdbe1d40a062"), looks := false }, kinds := [], alts := [], laidByText := true, laidKinds := [.data, .pinned], laidTests := true, laidLooks := .later }
def PolicyMeansUptoCardSaid : Prop := Claim7.holds Tryz.pinned (.plain (OpenSpec.upto policyMeansSpec)) policyMeansUptoCard

/-- THE SECOND FORM's CARD OF 'greatseallaw16.PolicyCompiles'. -/
def policyCompilesUptoCard : Claim7 := { stood := { row := policyCompilesUptoRow, standIns := [], harness := (true, "5c29536858e7b6ff26c9aac6ead60e8ec123df2c0ab2a42d67a8cdbe1d40a062"), looks := false }, kinds := [], alts := [], laidByText := true, laidKinds := [.data, .pinned], laidTests := true, laidLooks := .later }
def PolicyCompilesUptoCardSaid : Prop := Claim7.holds Tryz.pinned (.plain (OpenSpec.upto policyCompilesSpec)) policyCompilesUptoCard

/-- THE SECOND FORM's CARD OF 'greatseallaw16.PolicySame'. -/
def policySameUptoCard : Claim7 := { stood := { row := policySameUptoRow, standIns := [], harness := (true, "5c29536858e7b6ff26c9aac6ead60e8ec123df2c0ab2a42d67a8cdbe1d40a062"), looks := false }, kinds := [], alts := [], laidByText := true, laidKinds := [.data, .pinned], laidTests := true, laidLooks := .later }
def PolicySameUptoCardSaid : Prop := Claim7.holds Tryz.pinned (.plain (OpenSpec.upto policySameSpec)) policySameUptoCard

/-- THE SECOND FORM's CARD OF 'greatseallaw16.PolicyEach'. -/
def policyEachUptoCard : Claim7 := { stood := { row := policyEachUptoRow, standIns := [], harness := (true, "5c29536858e7b6ff26c9aac6ead60e8ec123df2c0ab2a42d67a8cdbe1d40a062"), looks := false }, kinds := [], alts := [], laidByText := true, laidKinds := [.data, .pinned], laidTests := true, laidLooks := .later }
def PolicyEachUptoCardSaid : Prop := Claim7.holds Tryz.pinned (.plain (OpenSpec.upto policyEachSpec)) policyEachUptoCard

/-- THE SECOND FORM's CARD OF 'greatseallaw16.PolicyOrder'. -/
def policyOrderUptoCard : Claim7 := { stood := { row := policyOrderUptoRow, standIns := [], harness := (true, "5c29536858e7b6ff26c9aac6ead60e8ec123df2c0ab2a42d67a8cdbe1d40a062"), looks := false }, kinds := [], alts := [], laidByText := true, laidKinds := [.data, .pinned], laidTests := true, laidLooks := .later }
def PolicyOrderUptoCardSaid : Prop := Claim7.holds Tryz.pinned (.plain (OpenSpec.upto policyOrderSpec)) policyOrderUptoCard

/-- THE SECOND FORM's CARD OF 'greatseallaw16.PolicyEases'. -/
def policyEasesUptoCard : Claim7 := { stood := { row := policyEasesUptoRow, standIns := [], harness := (true, "5c29536858e7b6ff26c9aac6ead60e8ec123df2c0ab2a42d67a8cdbe1d40a062"), looks := false }, kinds := [], alts := [], laidByText := true, laidKinds := [.data, .pinned], laidTests := true, laidLooks := .later }
def PolicyEasesUptoCardSaid : Prop := Claim7.holds Tryz.pinned (.plain (OpenSpec.upto policyEasesSpec)) policyEasesUptoCard

/-- THE SECOND FORM's CARD OF 'greatseallaw16.PolicyClashes'. -/
def policyClashesUptoCard : Claim7 := { stood := { row := policyClashesUptoRow, standIns := [], harness := (true, "5c29536858e7b6ff26c9aac6ead60e8ec123df2c0ab2a42d67a8cdbe1d40a062"), looks := false }, kinds := [], alts := [], laidByText := true, laidKinds := [.data, .pinned], laidTests := true, laidLooks := .later }
def PolicyClashesUptoCardSaid : Prop := Claim7.holds Tryz.pinned (.plain (OpenSpec.upto policyClashesSpec)) policyClashesUptoCard

/-- THE SECOND FORM's CARD OF 'greatseallaw16.PolicyTable'. -/
def policyTableUptoCard : Claim7 := { stood := { row := policyTableUptoRow, standIns := [], harness := (true, "5c29536858e7b6ff26c9aac6ead60e8ec123df2c0ab2a42d67a8cdbe1d40a062"), looks := false }, kinds := [], alts := [], laidByText := true, laidKinds := [.data, .pinned], laidTests := true, laidLooks := .later }
def PolicyTableUptoCardSaid : Prop := Claim7.holds Tryz.pinned (.plain (OpenSpec.upto policyTableSpec)) policyTableUptoCard

/-- THE SECOND FORM's CARD OF 'greatseallaw16.PolicyMore'. -/
def policyMoreUptoCard : Claim7 := { stood := { row := policyMoreUptoRow, standIns := [], harness := (true, "5c29536858e7b6ff26c9aac6ead60e8ec123df2c0ab2a42d67a8cdbe1d40a062"), looks := false }, kinds := [], alts := [], laidByText := true, laidKinds := [.data, .pinned], laidTests := true, laidLooks := .later }
def PolicyMoreUptoCardSaid : Prop := Claim7.holds Tryz.pinned (.plain (OpenSpec.upto policyMoreSpec)) policyMoreUptoCard

/-- THE SECOND FORM's CARD OF 'greatseallaw16.PolicyNearest'. -/
def policyNearestUptoCard : Claim7 := { stood := { row := policyNearestUptoRow, standIns := [], harness := (true, "5c29536858e7b6ff26c9aac6ead60e8ec123df2c0ab2a42d67a8cdbe1d40a062"), looks := false }, kinds := [], alts := [], laidByText := true, laidKinds := [.data, .pinned], laidTests := true, laidLooks := .later }
def PolicyNearestUptoCardSaid : Prop := Claim7.holds Tryz.pinned (.plain (OpenSpec.upto policyNearestSpec)) policyNearestUptoCard
end Rows
end Go.Proofs.YtmdmbdbbpdojnaaGreatDoor
