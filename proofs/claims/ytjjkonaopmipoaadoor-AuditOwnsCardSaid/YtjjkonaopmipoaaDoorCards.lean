/-
  DERIVED. GIVEN WITH THE SEED: THE CARDS: each row of YtjjkonaopmipoaaDoorRows.lean that lists a variable, with what it lists TIED to the program's text (the seventh form; the later family's looks); each row that meets fmt, with fmt's text TOLD by the authors' own Lean function (tested against real Go, not proved from fmt's source: count such statements apart). THE CARD IS WHAT COUNTS. Prove the row's statement (the work); the ties are given (YtjjkonaopmipoaaDoorTie.lean); close each card by the builder's one call (the guide's Derived/Test/ToyasCard.lean, 'card_holds'). Laid BY PROGRAM, IN A SANDBOX (cutbox-door.mjs). By AI agents, Wed Nov 11 2026. No macro, syntax, notation, axiom, sorry.
-/
import Derived.Test.YtjjkonaopmipoaaDoorRows
import GoSem.ClaimSeven
namespace Go.Proofs.YtjjkonaopmipoaaDoor
namespace Rows

/-- THE TIED CARD OF 'greatseallaw33.AuditOwns'. -/
def auditOwnsCard : Claim7 := { stood := { row := auditOwnsRow, standIns := [], harness := (true, "b14a8a7ceb5e407c97a9cd33c490aab5cdebfce0c4085626df14034874bd4ef4"), looks := false }, kinds := [], alts := [], laidByText := true, laidKinds := [.data, .pinned], laidTests := true, laidLooks := .later }
def AuditOwnsCardSaid : Prop := Claim7.holds Tryd.pinned (.plain (OpenSpec.ofChange auditOwnsSpec)) auditOwnsCard

/-- THE TIED CARD OF 'greatseallaw11.NamesChecks'. -/
def namesChecksCard : Claim7 := { stood := { row := namesChecksRow, standIns := [], harness := (true, "b14a8a7ceb5e407c97a9cd33c490aab5cdebfce0c4085626df14034874bd4ef4"), looks := false }, kinds := [], alts := [], laidByText := true, laidKinds := [.data, .pinned], laidTests := true, laidLooks := .later }
def NamesChecksCardSaid : Prop := Claim7.holds Tryd.pinned (.plain (OpenSpec.ofChange namesChecksSpec)) namesChecksCard

/-- THE TIED CARD OF 'greatseallaw11.NamesCompares'. -/
def namesComparesCard : Claim7 := { stood := { row := namesComparesRow, standIns := [], harness := (true, "b14a8a7ceb5e407c97a9cd33c490aab5cdebfce0c4085626df14034874bd4ef4"), looks := false }, kinds := [], alts := [], laidByText := true, laidKinds := [.data, .pinned], laidTests := true, laidLooks := .later }
def NamesComparesCardSaid : Prop := Claim7.holds Tryd.pinned (.plain (OpenSpec.ofChange namesComparesSpec)) namesComparesCard

/-- THE TIED CARD OF 'greatseallaw11.NamesWithin'. -/
def namesWithinCard : Claim7 := { stood := { row := namesWithinRow, standIns := [], harness := (true, "b14a8a7ceb5e407c97a9cd33c490aab5cdebfce0c4085626df14034874bd4ef4"), looks := false }, kinds := [], alts := [], laidByText := true, laidKinds := [.data, .pinned], laidTests := true, laidLooks := .later }
def NamesWithinCardSaid : Prop := Claim7.holds Tryd.pinned (.plain (OpenSpec.ofChange namesWithinSpec)) namesWithinCard

/-- THE TIED CARD OF 'greatseallaw11.NamesMeets'. -/
def namesMeetsCard : Claim7 := { stood := { row := namesMeetsRow, standIns := [], harness := (true, "b14a8a7ceb5e407c97a9cd33c490aab5cdebfce0c4085626df14034874bd4ef4"), looks := false }, kinds := [], alts := [], laidByText := true, laidKinds := [.data, .pinned], laidTests := true, laidLooks := .later }
def NamesMeetsCardSaid : Prop := Claim7.holds Tryd.pinned (.plain (OpenSpec.ofChange namesMeetsSpec)) namesMeetsCard

/-- THE TIED CARD OF 'greatseallaw11.NamesOrder'. -/
def namesOrderCard : Claim7 := { stood := { row := namesOrderRow, standIns := [], harness := (true, "b14a8a7ceb5e407c97a9cd33c490aab5cdebfce0c4085626df14034874bd4ef4"), looks := false }, kinds := [], alts := [], laidByText := true, laidKinds := [.data, .pinned], laidTests := true, laidLooks := .later }
def NamesOrderCardSaid : Prop := Claim7.holds Tryd.pinned (.plain (OpenSpec.ofChange namesOrderSpec)) namesOrderCard

/-- THE TIED CARD OF 'greatseallaw11.NamesUp'. -/
def namesUpCard : Claim7 := { stood := { row := namesUpRow, standIns := [], harness := (true, "b14a8a7ceb5e407c97a9cd33c490aab5cdebfce0c4085626df14034874bd4ef4"), looks := false }, kinds := [], alts := [], laidByText := true, laidKinds := [.data, .pinned], laidTests := true, laidLooks := .later }
def NamesUpCardSaid : Prop := Claim7.holds Tryd.pinned (.plain (OpenSpec.ofChange namesUpSpec)) namesUpCard

/-- THE TIED CARD OF 'greatseallaw11.NamesUnder'. -/
def namesUnderCard : Claim7 := { stood := { row := namesUnderRow, standIns := [], harness := (true, "b14a8a7ceb5e407c97a9cd33c490aab5cdebfce0c4085626df14034874bd4ef4"), looks := false }, kinds := [], alts := [], laidByText := true, laidKinds := [.data, .pinned], laidTests := true, laidLooks := .later }
def NamesUnderCardSaid : Prop := Claim7.holds Tryd.pinned (.plain (OpenSpec.ofChange namesUnderSpec)) namesUnderCard

/-- THE TIED CARD OF 'greatseallaw11.NamesLabel'. -/
def namesLabelCard : Claim7 := { stood := { row := namesLabelRow, standIns := [], harness := (true, "b14a8a7ceb5e407c97a9cd33c490aab5cdebfce0c4085626df14034874bd4ef4"), looks := false }, kinds := [], alts := [], laidByText := true, laidKinds := [.data, .pinned], laidTests := true, laidLooks := .later }
def NamesLabelCardSaid : Prop := Claim7.holds Tryd.pinned (.plain (OpenSpec.ofChange namesLabelSpec)) namesLabelCard

/-- THE TIED CARD OF 'greatseallaw11.NamesBytes'. -/
def namesBytesCard : Claim7 := { stood := { row := namesBytesRow, standIns := [], harness := (true, "b14a8a7ceb5e407c97a9cd33c490aab5cdebfce0c4085626df14034874bd4ef4"), looks := false }, kinds := [], alts := [], laidByText := true, laidKinds := [.data, .pinned], laidTests := true, laidLooks := .later }
def NamesBytesCardSaid : Prop := Claim7.holds Tryd.pinned (.plain (OpenSpec.ofChange namesBytesSpec)) namesBytesCard

/-- THE SECOND FORM's CARD OF 'greatseallaw33.AuditOwns'. -/
def auditOwnsUptoCard : Claim7 := { stood := { row := auditOwnsUptoRow, standIns := [], harness := (true, "b14a8a7ceb5e407c97a9cd33c490aab5cdebfce0c4085626df14034874bd4ef4"), looks := false }, kinds := [], alts := [], laidByText := true, laidKinds := [.data, .pinned], laidTests := true, laidLooks := .later }
def AuditOwnsUptoCardSaid : Prop := Claim7.holds Tryd.pinned (.plain (OpenSpec.upto auditOwnsSpec)) auditOwnsUptoCard

/-- THE SECOND FORM's CARD OF 'greatseallaw11.NamesChecks'. -/
def namesChecksUptoCard : Claim7 := { stood := { row := namesChecksUptoRow, standIns := [], harness := (true, "b14a8a7ceb5e407c97a9cd33c490aab5cdebfce0c4085626df14034874bd4ef4"), looks := false }, kinds := [], alts := [], laidByText := true, laidKinds := [.data, .pinned], laidTests := true, laidLooks := .later }
def NamesChecksUptoCardSaid : Prop := Claim7.holds Tryd.pinned (.plain (OpenSpec.upto namesChecksSpec)) namesChecksUptoCard

/-- THE SECOND FORM's CARD OF 'greatseallaw11.NamesCompares'. -/
def namesComparesUptoCard : Claim7 := { stood := { row := namesComparesUptoRow, standIns := [], harness := (true, "b14a8a7ceb5e407c97a9cd33c490aab5cdebfce0c4085626df14034874bd4ef4"), looks := false }, kinds := [], alts := [], laidByText := true, laidKinds := [.data, .pinned], laidTests := true, laidLooks := .later }
def NamesComparesUptoCardSaid : Prop := Claim7.holds Tryd.pinned (.plain (OpenSpec.upto namesComparesSpec)) namesComparesUptoCard

/-- THE SECOND FORM's CARD OF 'greatseallaw11.NamesWithin'. -/
def namesWithinUptoCard : Claim7 := { stood := { row := namesWithinUptoRow, standIns := [], harness := (true, "b14a8a7ceb5e407c97a9cd33c490aab5cdebfce0c4085626df14034874bd4ef4"), looks := false }, kinds := [], alts := [], laidByText := true, laidKinds := [.data, .pinned], laidTests := true, laidLooks := .later }
def NamesWithinUptoCardSaid : Prop := Claim7.holds Tryd.pinned (.plain (OpenSpec.upto namesWithinSpec)) namesWithinUptoCard

/-- THE SECOND FORM's CARD OF 'greatseallaw11.NamesMeets'. -/
def namesMeetsUptoCard : Claim7 := { stood := { row := namesMeetsUptoRow, standIns := [], harness := (true, "b14a8a7ceb5e407c97a9cd33c490aab5cdebfce0c4085626df14034874bd4ef4"), looks := false }, kinds := [], alts := [], laidByText := true, laidKinds := [.data, .pinned], laidTests := true, laidLooks := .later }
def NamesMeetsUptoCardSaid : Prop := Claim7.holds Tryd.pinned (.plain (OpenSpec.upto namesMeetsSpec)) namesMeetsUptoCard

/-- THE SECOND FORM's CARD OF 'greatseallaw11.NamesOrder'. -/
def namesOrderUptoCard : Claim7 := { stood := { row := namesOrderUptoRow, standIns := [], harness := (true, "b14a8a7ceb5e407c97a9cd33c490aab5cdebfce0c4085626df14034874bd4ef4"), looks := false }, kinds := [], alts := [], laidByText := true, laidKinds := [.data, .pinned], laidTests := true, laidLooks := .later }
def NamesOrderUptoCardSaid : Prop := Claim7.holds Tryd.pinned (.plain (OpenSpec.upto namesOrderSpec)) namesOrderUptoCard

/-- THE SECOND FORM's CARD OF 'greatseallaw11.NamesUp'. -/
def namesUpUptoCard : Claim7 := { stood := { row := namesUpUptoRow, standIns := [], harness := (true, "b14a8a7ceb5e407c97a9cd33c490aab5cdebfce0c4085626df14034874bd4ef4"), looks := false }, kinds := [], alts := [], laidByText := true, laidKinds := [.data, .pinned], laidTests := true, laidLooks := .later }
def NamesUpUptoCardSaid : Prop := Claim7.holds Tryd.pinned (.plain (OpenSpec.upto namesUpSpec)) namesUpUptoCard

/-- THE SECOND FORM's CARD OF 'greatseallaw11.NamesUnder'. -/
def namesUnderUptoCard : Claim7 := { stood := { row := namesUnderUptoRow, standIns := [], harness := (true, "b14a8a7ceb5e407c97a9cd33c490aab5cdebfce0c4085626df14034874bd4ef4"), looks := false }, kinds := [], alts := [], laidByText := true, laidKinds := [.data, .pinned], laidTests := true, laidLooks := .later }
def NamesUnderUptoCardSaid : Prop := Claim7.holds Tryd.pinned (.plain (OpenSpec.upto namesUnderSpec)) namesUnderUptoCard

/-- THE SECOND FORM's CARD OF 'greatseallaw11.NamesLabel'. -/
def namesLabelUptoCard : Claim7 := { stood := { row := namesLabelUptoRow, standIns := [], harness := (true, "b14a8a7ceb5e407c97a9cd33c490aab5cdebfce0c4085626df14034874bd4ef4"), looks := false }, kinds := [], alts := [], laidByText := true, laidKinds := [.data, .pinned], laidTests := true, laidLooks := .later }
def NamesLabelUptoCardSaid : Prop := Claim7.holds Tryd.pinned (.plain (OpenSpec.upto namesLabelSpec)) namesLabelUptoCard

/-- THE SECOND FORM's CARD OF 'greatseallaw11.NamesBytes'. -/
def namesBytesUptoCard : Claim7 := { stood := { row := namesBytesUptoRow, standIns := [], harness := (true, "b14a8a7ceb5e407c97a9cd33c490aab5cdebfce0c4085626df14034874bd4ef4"), looks := false }, kinds := [], alts := [], laidByText := true, laidKinds := [.data, .pinned], laidTests := true, laidLooks := .later }
def NamesBytesUptoCardSaid : Prop := Claim7.holds Tryd.pinned (.plain (OpenSpec.upto namesBytesSpec)) namesBytesUptoCard
end Rows
end Go.Proofs.YtjjkonaopmipoaaDoor
