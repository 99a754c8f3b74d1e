/-
  DERIVED. GIVEN WITH THE SEED: THE CARDS: each row of YtjmgalpkbkcmkaaGreatDoorRows.lean that lists a variable, with what it lists TIED to the program's text (the seventh form; the later family's looks); each row that meets fmt, with fmt's text TOLD by the authors' own Lean function (tested against real Go, not proved from fmt's source: count such statements apart). THE CARD IS WHAT COUNTS. Prove the row's statement (the work); the ties are given (YtjmgalpkbkcmkaaGreatDoorTie.lean); close each card by the builder's one call (the guide's Derived/Test/ToyasCard.lean, 'card_holds'). Laid BY PROGRAM, IN A SANDBOX (cutbox-door.mjs). By AI agents, Wed Nov 11 2026. No macro, syntax, notation, axiom, sorry.
-/
import Derived.Test.YtjmgalpkbkcmkaaGreatDoorRows
import GoSem.ClaimSeven
namespace Go.Proofs.YtjmgalpkbkcmkaaGreatDoor
namespace Rows

/-- THE TIED CARD OF 'greatseallaw25.SignerOnce'. -/
def signerOnceCard : Claim7 := { stood := { row := signerOnceRow, standIns := [], harness := (true, "17933b619644624968a24fee093974bf5ee3523ee396f1a3ada5cf54d17acf09"), looks := true }, kinds := [], alts := [], laidByText := true, laidKinds := [.data, .funcsDeep, .pinned], laidTests := true, laidLooks := .later }
def SignerOnceCardSaid : Prop := Claim7.holds Tryz.pinned (.plain (OpenSpec.ofChange signerOnceSpec)) signerOnceCard

/-- THE SECOND FORM's CARD OF 'greatseallaw25.SignerOnce'. -/
def signerOnceUptoCard : Claim7 := { stood := { row := signerOnceUptoRow, standIns := [], harness := (true, "17933b619644624968a24fee093974bf5ee3523ee396f1a3ada5cf54d17acf09"), looks := true }, kinds := [], alts := [], laidByText := true, laidKinds := [.data, .funcsDeep, .pinned], laidTests := true, laidLooks := .later }
def SignerOnceUptoCardSaid : Prop := Claim7.holds Tryz.pinned (.plain (OpenSpec.upto signerOnceSpec)) signerOnceUptoCard
end Rows
end Go.Proofs.YtjmgalpkbkcmkaaGreatDoor
