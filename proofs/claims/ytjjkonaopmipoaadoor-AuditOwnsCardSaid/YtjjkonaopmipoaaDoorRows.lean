/-
  NARROWER THAN 'FOR EVERY INPUT', by the rows' own cells (each row's printed sentence says how): AuditOwns: laid · NamesChecks: laid · NamesCompares: laid · NamesWithin: laid · NamesMeets: laid · NamesOrder: laid · NamesUp: laid · NamesUnder: laid · NamesLabel: laid · NamesBytes: laid.
  DERIVED. THE GIVEN ROWS OF THIS SEAT. 10 by the template 'for every input the law returns true; each argument reads behind the call as it read before'; 0 by the template 'total and deterministic' (their statements: YtjjkonaopmipoaaDoorTotals.lean).
  GIVEN WITH THE SEED: the statements are not yours to turn. If you find one false, say at which input.
  Laid BY PROGRAM, IN A SANDBOX (cutbox-rows.mjs): the forced cells as the released guide's own fill.sh prints them over the translation 622e852cfb73b603… (all of the seat's roots in one cut). By AI agents, Wed Nov 11 2026. No macro, syntax, notation, axiom, sorry.
-/
import Derived.Test.YtjjkonaopmipoaaDoorChecked
import GoSem.PinnedTables
import GoSem.Claim
import GoSem.ClaimJoined
import GoSem.ClaimMapViews
import Derived.JoinedTies
import Derived.KernelRfl
namespace Go.Proofs.YtjjkonaopmipoaaDoor
/- THE CELL 'sum', in the pinned program and in every row, IS THE sha256 OF THE DUMP (.gsa) THAT YtjjkonaopmipoaaDoorProg.lean LOADS. Nothing in Lean hashes anything: it is a label: what it is worth is what the hold of that sum in a sandbox is worth. -/
noncomputable def Tryd.pinned : Pinned := { name := "ytjjkonaopmipoaadoor", sum := "622e852cfb73b60319193083785f699eb2430fcf092604b70455a72c50b07ac9", checked := Tryd.checked }
namespace Rows
def none {H : Type} : Left H := { results := [], args := [] }

/- WHAT THE LISTED PACKAGE-LEVEL VARIABLES READ AS WHEN THE CALL BEGINS. Each datum BY PROGRAM (the guide's laid-datum.mjs) off the statement by which the dump's own 'gosem.cut.vars' lays the variable. In a bare row this is a premise. The card (YtjjkonaopmipoaaDoorCards.lean) ties it to the program's text. -/
def laid_unicode_utf8_acceptRanges {H : Type} : DataW H := .agg [.agg [.lit (.int .u8 128), .lit (.int .u8 191)], .agg [.lit (.int .u8 160), .lit (.int .u8 191)], .agg [.lit (.int .u8 128), .lit (.int .u8 159)], .agg [.lit (.int .u8 144), .lit (.int .u8 191)], .agg [.lit (.int .u8 128), .lit (.int .u8 143)], .agg [.lit (.int .u8 0), .lit (.int .u8 0)], .agg [.lit (.int .u8 0), .lit (.int .u8 0)], .agg [.lit (.int .u8 0), .lit (.int .u8 0)], .agg [.lit (.int .u8 0), .lit (.int .u8 0)], .agg [.lit (.int .u8 0), .lit (.int .u8 0)], .agg [.lit (.int .u8 0), .lit (.int .u8 0)], .agg [.lit (.int .u8 0), .lit (.int .u8 0)], .agg [.lit (.int .u8 0), .lit (.int .u8 0)], .agg [.lit (.int .u8 0), .lit (.int .u8 0)], .agg [.lit (.int .u8 0), .lit (.int .u8 0)], .agg [.lit (.int .u8 0), .lit (.int .u8 0)]]
/-- One of Go's own tables, pinned by name: the form's constant. -/
def laid_unicode_utf8_first : DataW Unit := Go.Pinned.utf8First

/-- 'greatseallaw33.AuditOwns': WHATEVER THE INPUT: true; the input reads as it did. -/
def auditOwnsSpec : ChangeSpec := { name := "auditOwns", fn := fun _ => fun
  | [d1, d2, d3] => { results := [.lit (.bool true)], args := [d1, d2, d3] }
  | _ => none }
def auditOwnsRow : OpenClaim := { program := "ytjjkonaopmipoaadoor", sum := "622e852cfb73b60319193083785f699eb2430fcf092604b70455a72c50b07ac9", func := "greatseal/greatseallaw33.AuditOwns", spec := "auditOwns", inPlace := ["internal/bytealg.CountString", "internal/bytealg.IndexByteString", "internal/bytealg.IndexString"], unfollowed := true, recurses := true, named := ["internal/bytealg.MaxLen", "unicode/utf8.first", "unicode/utf8.acceptRanges"], apart := false, laid := [("unicode/utf8.acceptRanges", laid_unicode_utf8_acceptRanges), ("unicode/utf8.first", laid_unicode_utf8_first)] }
def AuditOwnsSaid : Prop := auditOwnsRow.holds Tryd.pinned (OpenSpec.ofChange auditOwnsSpec)

/-- ITS FALSE NEIGHBOUR: 'it returns false'. Refute it at one input. -/
def auditOwnsWrong : ChangeSpec := { name := "auditOwns", fn := fun _ => fun
  | [d1, d2, d3] => { results := [.lit (.bool false)], args := [d1, d2, d3] }
  | _ => none }
def AuditOwnsWrongFalsely : Prop := auditOwnsRow.holds Tryd.pinned (OpenSpec.ofChange auditOwnsWrong)

/-- 'greatseallaw11.NamesChecks': WHATEVER THE INPUT: true; the input reads as it did. -/
def namesChecksSpec : ChangeSpec := { name := "namesChecks", fn := fun _ => fun
  | [d] => { results := [.lit (.bool true)], args := [d] }
  | _ => none }
def namesChecksRow : OpenClaim := { program := "ytjjkonaopmipoaadoor", sum := "622e852cfb73b60319193083785f699eb2430fcf092604b70455a72c50b07ac9", func := "greatseal/greatseallaw11.NamesChecks", spec := "namesChecks", inPlace := ["internal/bytealg.CountString", "internal/bytealg.IndexByteString", "internal/bytealg.IndexString"], unfollowed := true, recurses := true, named := ["internal/bytealg.MaxLen", "unicode/utf8.first", "unicode/utf8.acceptRanges"], apart := false, laid := [("unicode/utf8.acceptRanges", laid_unicode_utf8_acceptRanges), ("unicode/utf8.first", laid_unicode_utf8_first)] }
def NamesChecksSaid : Prop := namesChecksRow.holds Tryd.pinned (OpenSpec.ofChange namesChecksSpec)

/-- ITS FALSE NEIGHBOUR: 'it returns false'. Refute it at one input. -/
def namesChecksWrong : ChangeSpec := { name := "namesChecks", fn := fun _ => fun
  | [d] => { results := [.lit (.bool false)], args := [d] }
  | _ => none }
def NamesChecksWrongFalsely : Prop := namesChecksRow.holds Tryd.pinned (OpenSpec.ofChange namesChecksWrong)

/-- 'greatseallaw11.NamesCompares': WHATEVER THE INPUT: true; the input reads as it did. -/
def namesComparesSpec : ChangeSpec := { name := "namesCompares", fn := fun _ => fun
  | [d1, d2] => { results := [.lit (.bool true)], args := [d1, d2] }
  | _ => none }
def namesComparesRow : OpenClaim := { program := "ytjjkonaopmipoaadoor", sum := "622e852cfb73b60319193083785f699eb2430fcf092604b70455a72c50b07ac9", func := "greatseal/greatseallaw11.NamesCompares", spec := "namesCompares", inPlace := ["internal/bytealg.CountString", "internal/bytealg.IndexByteString", "internal/bytealg.IndexString"], unfollowed := true, recurses := true, named := ["internal/bytealg.MaxLen", "unicode/utf8.first", "unicode/utf8.acceptRanges"], apart := false, laid := [("unicode/utf8.acceptRanges", laid_unicode_utf8_acceptRanges), ("unicode/utf8.first", laid_unicode_utf8_first)] }
def NamesComparesSaid : Prop := namesComparesRow.holds Tryd.pinned (OpenSpec.ofChange namesComparesSpec)

/-- ITS FALSE NEIGHBOUR: 'it returns false'. Refute it at one input. -/
def namesComparesWrong : ChangeSpec := { name := "namesCompares", fn := fun _ => fun
  | [d1, d2] => { results := [.lit (.bool false)], args := [d1, d2] }
  | _ => none }
def NamesComparesWrongFalsely : Prop := namesComparesRow.holds Tryd.pinned (OpenSpec.ofChange namesComparesWrong)

/-- 'greatseallaw11.NamesWithin': WHATEVER THE INPUT: true; the input reads as it did. -/
def namesWithinSpec : ChangeSpec := { name := "namesWithin", fn := fun _ => fun
  | [d1, d2, d3] => { results := [.lit (.bool true)], args := [d1, d2, d3] }
  | _ => none }
def namesWithinRow : OpenClaim := { program := "ytjjkonaopmipoaadoor", sum := "622e852cfb73b60319193083785f699eb2430fcf092604b70455a72c50b07ac9", func := "greatseal/greatseallaw11.NamesWithin", spec := "namesWithin", inPlace := ["internal/bytealg.CountString", "internal/bytealg.IndexByteString", "internal/bytealg.IndexString"], unfollowed := true, recurses := true, named := ["internal/bytealg.MaxLen", "unicode/utf8.first", "unicode/utf8.acceptRanges"], apart := false, laid := [("unicode/utf8.acceptRanges", laid_unicode_utf8_acceptRanges), ("unicode/utf8.first", laid_unicode_utf8_first)] }
def NamesWithinSaid : Prop := namesWithinRow.holds Tryd.pinned (OpenSpec.ofChange namesWithinSpec)

/-- ITS FALSE NEIGHBOUR: 'it returns false'. Refute it at one input. -/
def namesWithinWrong : ChangeSpec := { name := "namesWithin", fn := fun _ => fun
  | [d1, d2, d3] => { results := [.lit (.bool false)], args := [d1, d2, d3] }
  | _ => none }
def NamesWithinWrongFalsely : Prop := namesWithinRow.holds Tryd.pinned (OpenSpec.ofChange namesWithinWrong)

/-- 'greatseallaw11.NamesMeets': WHATEVER THE INPUT: true; the input reads as it did. -/
def namesMeetsSpec : ChangeSpec := { name := "namesMeets", fn := fun _ => fun
  | [d1, d2, d3] => { results := [.lit (.bool true)], args := [d1, d2, d3] }
  | _ => none }
def namesMeetsRow : OpenClaim := { program := "ytjjkonaopmipoaadoor", sum := "622e852cfb73b60319193083785f699eb2430fcf092604b70455a72c50b07ac9", func := "greatseal/greatseallaw11.NamesMeets", spec := "namesMeets", inPlace := ["internal/bytealg.CountString", "internal/bytealg.IndexByteString", "internal/bytealg.IndexString"], unfollowed := true, recurses := true, named := ["internal/bytealg.MaxLen", "unicode/utf8.first", "unicode/utf8.acceptRanges"], apart := false, laid := [("unicode/utf8.acceptRanges", laid_unicode_utf8_acceptRanges), ("unicode/utf8.first", laid_unicode_utf8_first)] }
def NamesMeetsSaid : Prop := namesMeetsRow.holds Tryd.pinned (OpenSpec.ofChange namesMeetsSpec)

/-- ITS FALSE NEIGHBOUR: 'it returns false'. Refute it at one input. -/
def namesMeetsWrong : ChangeSpec := { name := "namesMeets", fn := fun _ => fun
  | [d1, d2, d3] => { results := [.lit (.bool false)], args := [d1, d2, d3] }
  | _ => none }
def NamesMeetsWrongFalsely : Prop := namesMeetsRow.holds Tryd.pinned (OpenSpec.ofChange namesMeetsWrong)

/-- 'greatseallaw11.NamesOrder': WHATEVER THE INPUT: true; the input reads as it did. -/
def namesOrderSpec : ChangeSpec := { name := "namesOrder", fn := fun _ => fun
  | [d1, d2, d3] => { results := [.lit (.bool true)], args := [d1, d2, d3] }
  | _ => none }
def namesOrderRow : OpenClaim := { program := "ytjjkonaopmipoaadoor", sum := "622e852cfb73b60319193083785f699eb2430fcf092604b70455a72c50b07ac9", func := "greatseal/greatseallaw11.NamesOrder", spec := "namesOrder", inPlace := ["internal/bytealg.CountString", "internal/bytealg.IndexByteString", "internal/bytealg.IndexString"], unfollowed := true, recurses := true, named := ["internal/bytealg.MaxLen", "unicode/utf8.first", "unicode/utf8.acceptRanges"], apart := false, laid := [("unicode/utf8.acceptRanges", laid_unicode_utf8_acceptRanges), ("unicode/utf8.first", laid_unicode_utf8_first)] }
def NamesOrderSaid : Prop := namesOrderRow.holds Tryd.pinned (OpenSpec.ofChange namesOrderSpec)

/-- ITS FALSE NEIGHBOUR: 'it returns false'. Refute it at one input. -/
def namesOrderWrong : ChangeSpec := { name := "namesOrder", fn := fun _ => fun
  | [d1, d2, d3] => { results := [.lit (.bool false)], args := [d1, d2, d3] }
  | _ => none }
def NamesOrderWrongFalsely : Prop := namesOrderRow.holds Tryd.pinned (OpenSpec.ofChange namesOrderWrong)

/-- 'greatseallaw11.NamesUp': WHATEVER THE INPUT: true; the input reads as it did. -/
def namesUpSpec : ChangeSpec := { name := "namesUp", fn := fun _ => fun
  | [d] => { results := [.lit (.bool true)], args := [d] }
  | _ => none }
def namesUpRow : OpenClaim := { program := "ytjjkonaopmipoaadoor", sum := "622e852cfb73b60319193083785f699eb2430fcf092604b70455a72c50b07ac9", func := "greatseal/greatseallaw11.NamesUp", spec := "namesUp", inPlace := ["internal/bytealg.CountString", "internal/bytealg.IndexByteString", "internal/bytealg.IndexString"], unfollowed := true, recurses := true, named := ["internal/bytealg.MaxLen", "unicode/utf8.first", "unicode/utf8.acceptRanges"], apart := false, laid := [("unicode/utf8.acceptRanges", laid_unicode_utf8_acceptRanges), ("unicode/utf8.first", laid_unicode_utf8_first)] }
def NamesUpSaid : Prop := namesUpRow.holds Tryd.pinned (OpenSpec.ofChange namesUpSpec)

/-- ITS FALSE NEIGHBOUR: 'it returns false'. Refute it at one input. -/
def namesUpWrong : ChangeSpec := { name := "namesUp", fn := fun _ => fun
  | [d] => { results := [.lit (.bool false)], args := [d] }
  | _ => none }
def NamesUpWrongFalsely : Prop := namesUpRow.holds Tryd.pinned (OpenSpec.ofChange namesUpWrong)

/-- 'greatseallaw11.NamesUnder': WHATEVER THE INPUT: true; the input reads as it did. -/
def namesUnderSpec : ChangeSpec := { name := "namesUnder", fn := fun _ => fun
  | [d1, d2] => { results := [.lit (.bool true)], args := [d1, d2] }
  | _ => none }
def namesUnderRow : OpenClaim := { program := "ytjjkonaopmipoaadoor", sum := "622e852cfb73b60319193083785f699eb2430fcf092604b70455a72c50b07ac9", func := "greatseal/greatseallaw11.NamesUnder", spec := "namesUnder", inPlace := ["internal/bytealg.CountString", "internal/bytealg.IndexByteString", "internal/bytealg.IndexString"], unfollowed := true, recurses := true, named := ["internal/bytealg.MaxLen", "unicode/utf8.first", "unicode/utf8.acceptRanges"], apart := false, laid := [("unicode/utf8.acceptRanges", laid_unicode_utf8_acceptRanges), ("unicode/utf8.first", laid_unicode_utf8_first)] }
def NamesUnderSaid : Prop := namesUnderRow.holds Tryd.pinned (OpenSpec.ofChange namesUnderSpec)

/-- ITS FALSE NEIGHBOUR: 'it returns false'. Refute it at one input. -/
def namesUnderWrong : ChangeSpec := { name := "namesUnder", fn := fun _ => fun
  | [d1, d2] => { results := [.lit (.bool false)], args := [d1, d2] }
  | _ => none }
def NamesUnderWrongFalsely : Prop := namesUnderRow.holds Tryd.pinned (OpenSpec.ofChange namesUnderWrong)

/-- 'greatseallaw11.NamesLabel': WHATEVER THE INPUT: true; the input reads as it did. -/
def namesLabelSpec : ChangeSpec := { name := "namesLabel", fn := fun _ => fun
  | [d1, d2] => { results := [.lit (.bool true)], args := [d1, d2] }
  | _ => none }
def namesLabelRow : OpenClaim := { program := "ytjjkonaopmipoaadoor", sum := "622e852cfb73b60319193083785f699eb2430fcf092604b70455a72c50b07ac9", func := "greatseal/greatseallaw11.NamesLabel", spec := "namesLabel", inPlace := ["internal/bytealg.CountString", "internal/bytealg.IndexByteString", "internal/bytealg.IndexString"], unfollowed := true, recurses := true, named := ["internal/bytealg.MaxLen", "unicode/utf8.first", "unicode/utf8.acceptRanges"], apart := false, laid := [("unicode/utf8.acceptRanges", laid_unicode_utf8_acceptRanges), ("unicode/utf8.first", laid_unicode_utf8_first)] }
def NamesLabelSaid : Prop := namesLabelRow.holds Tryd.pinned (OpenSpec.ofChange namesLabelSpec)

/-- ITS FALSE NEIGHBOUR: 'it returns false'. Refute it at one input. -/
def namesLabelWrong : ChangeSpec := { name := "namesLabel", fn := fun _ => fun
  | [d1, d2] => { results := [.lit (.bool false)], args := [d1, d2] }
  | _ => none }
def NamesLabelWrongFalsely : Prop := namesLabelRow.holds Tryd.pinned (OpenSpec.ofChange namesLabelWrong)

/-- 'greatseallaw11.NamesBytes': WHATEVER THE INPUT: true; the input reads as it did. -/
def namesBytesSpec : ChangeSpec := { name := "namesBytes", fn := fun _ => fun
  | [d1, d2, d3] => { results := [.lit (.bool true)], args := [d1, d2, d3] }
  | _ => none }
def namesBytesRow : OpenClaim := { program := "ytjjkonaopmipoaadoor", sum := "622e852cfb73b60319193083785f699eb2430fcf092604b70455a72c50b07ac9", func := "greatseal/greatseallaw11.NamesBytes", spec := "namesBytes", inPlace := ["internal/bytealg.CountString", "internal/bytealg.IndexByteString", "internal/bytealg.IndexString"], unfollowed := true, recurses := true, named := ["internal/bytealg.MaxLen", "unicode/utf8.first", "unicode/utf8.acceptRanges"], apart := false, laid := [("unicode/utf8.acceptRanges", laid_unicode_utf8_acceptRanges), ("unicode/utf8.first", laid_unicode_utf8_first)] }
def NamesBytesSaid : Prop := namesBytesRow.holds Tryd.pinned (OpenSpec.ofChange namesBytesSpec)

/-- ITS FALSE NEIGHBOUR: 'it returns false'. Refute it at one input. -/
def namesBytesWrong : ChangeSpec := { name := "namesBytes", fn := fun _ => fun
  | [d1, d2, d3] => { results := [.lit (.bool false)], args := [d1, d2, d3] }
  | _ => none }
def NamesBytesWrongFalsely : Prop := namesBytesRow.holds Tryd.pinned (OpenSpec.ofChange namesBytesWrong)

/- THE SECOND FORM. 'bulk': how many values and letters a reading holds, each counted each time it is reached (what is shared counts as often as it is met; a slice's spare places count too). A statement '..UptoSaid' is the law's where the arguments, and the package variables that the reading takes, are together of bulk at most 1048576: NARROWER than '..Said'. Prove '..Said' where nothing that the law and all that it calls make is longer than what came in: it says more and counts as full. Else prove '..UptoSaid'. A law counts once. -/
mutual
def uptoBulk {H : Type} : DataW H → Nat
  | .lit (.string bytes) => bytes.length + 1
  | .lit _ => 1
  | .nil => 1
  | .ptr d => uptoBulk d + 1
  | .slice elems spare => uptoBulkAll elems + uptoBulkAll spare + 1
  | .agg parts => uptoBulkAll parts + 1
  | .iface _ d => uptoBulk d + 1
  | .map entries => uptoBulkEntries entries + 1
  | .held _ => 1
def uptoBulkAll {H : Type} : List (DataW H) → Nat
  | [] => 0
  | d :: r => uptoBulk d + uptoBulkAll r
def uptoBulkEntries {H : Type} : List (Lit × DataW H) → Nat
  | [] => 0
  | x :: r => uptoBulkEntry x + uptoBulkEntries r
def uptoBulkEntry {H : Type} : Lit × DataW H → Nat
  | (.string bytes, d) => bytes.length + uptoBulk d + 1
  | (_, d) => uptoBulk d + 1
 end
def uptoSmall : (H : Type) → List (DataW H) → Bool := fun _ ds => decide (uptoBulkAll ds ≤ 1048576)
def OpenSpec.upto (s : _root_.Go.ChangeSpec) : _root_.Go.OpenSpec := { _root_.Go.OpenSpec.ofChange s with cond := some uptoSmall }

/-- 'greatseallaw33.AuditOwns', WHERE WHAT IT READS IS OF BULK AT MOST 1048576: true; the input reads as it did. -/
def auditOwnsUptoRow : OpenClaim := { program := "ytjjkonaopmipoaadoor", sum := "622e852cfb73b60319193083785f699eb2430fcf092604b70455a72c50b07ac9", func := "greatseal/greatseallaw33.AuditOwns", spec := "auditOwns", inPlace := ["internal/bytealg.CountString", "internal/bytealg.IndexByteString", "internal/bytealg.IndexString"], unfollowed := true, recurses := true, named := ["internal/bytealg.MaxLen", "unicode/utf8.first", "unicode/utf8.acceptRanges"], apart := false, laid := [("unicode/utf8.acceptRanges", laid_unicode_utf8_acceptRanges), ("unicode/utf8.first", laid_unicode_utf8_first)], narrowed := true }
def AuditOwnsUptoSaid : Prop := auditOwnsUptoRow.holds Tryd.pinned (OpenSpec.upto auditOwnsSpec)

/-- 'greatseallaw11.NamesChecks', WHERE WHAT IT READS IS OF BULK AT MOST 1048576: true; the input reads as it did. -/
def namesChecksUptoRow : OpenClaim := { program := "ytjjkonaopmipoaadoor", sum := "622e852cfb73b60319193083785f699eb2430fcf092604b70455a72c50b07ac9", func := "greatseal/greatseallaw11.NamesChecks", spec := "namesChecks", inPlace := ["internal/bytealg.CountString", "internal/bytealg.IndexByteString", "internal/bytealg.IndexString"], unfollowed := true, recurses := true, named := ["internal/bytealg.MaxLen", "unicode/utf8.first", "unicode/utf8.acceptRanges"], apart := false, laid := [("unicode/utf8.acceptRanges", laid_unicode_utf8_acceptRanges), ("unicode/utf8.first", laid_unicode_utf8_first)], narrowed := true }
def NamesChecksUptoSaid : Prop := namesChecksUptoRow.holds Tryd.pinned (OpenSpec.upto namesChecksSpec)

/-- 'greatseallaw11.NamesCompares', WHERE WHAT IT READS IS OF BULK AT MOST 1048576: true; the input reads as it did. -/
def namesComparesUptoRow : OpenClaim := { program := "ytjjkonaopmipoaadoor", sum := "622e852cfb73b60319193083785f699eb2430fcf092604b70455a72c50b07ac9", func := "greatseal/greatseallaw11.NamesCompares", spec := "namesCompares", inPlace := ["internal/bytealg.CountString", "internal/bytealg.IndexByteString", "internal/bytealg.IndexString"], unfollowed := true, recurses := true, named := ["internal/bytealg.MaxLen", "unicode/utf8.first", "unicode/utf8.acceptRanges"], apart := false, laid := [("unicode/utf8.acceptRanges", laid_unicode_utf8_acceptRanges), ("unicode/utf8.first", laid_unicode_utf8_first)], narrowed := true }
def NamesComparesUptoSaid : Prop := namesComparesUptoRow.holds Tryd.pinned (OpenSpec.upto namesComparesSpec)

/-- 'greatseallaw11.NamesWithin', WHERE WHAT IT READS IS OF BULK AT MOST 1048576: true; the input reads as it did. -/
def namesWithinUptoRow : OpenClaim := { program := "ytjjkonaopmipoaadoor", sum := "622e852cfb73b60319193083785f699eb2430fcf092604b70455a72c50b07ac9", func := "greatseal/greatseallaw11.NamesWithin", spec := "namesWithin", inPlace := ["internal/bytealg.CountString", "internal/bytealg.IndexByteString", "internal/bytealg.IndexString"], unfollowed := true, recurses := true, named := ["internal/bytealg.MaxLen", "unicode/utf8.first", "unicode/utf8.acceptRanges"], apart := false, laid := [("unicode/utf8.acceptRanges", laid_unicode_utf8_acceptRanges), ("unicode/utf8.first", laid_unicode_utf8_first)], narrowed := true }
def NamesWithinUptoSaid : Prop := namesWithinUptoRow.holds Tryd.pinned (OpenSpec.upto namesWithinSpec)

/-- 'greatseallaw11.NamesMeets', WHERE WHAT IT READS IS OF BULK AT MOST 1048576: true; the input reads as it did. -/
def namesMeetsUptoRow : OpenClaim := { program := "ytjjkonaopmipoaadoor", sum := "622e852cfb73b60319193083785f699eb2430fcf092604b70455a72c50b07ac9", func := "greatseal/greatseallaw11.NamesMeets", spec := "namesMeets", inPlace := ["internal/bytealg.CountString", "internal/bytealg.IndexByteString", "internal/bytealg.IndexString"], unfollowed := true, recurses := true, named := ["internal/bytealg.MaxLen", "unicode/utf8.first", "unicode/utf8.acceptRanges"], apart := false, laid := [("unicode/utf8.acceptRanges", laid_unicode_utf8_acceptRanges), ("unicode/utf8.first", laid_unicode_utf8_first)], narrowed := true }
def NamesMeetsUptoSaid : Prop := namesMeetsUptoRow.holds Tryd.pinned (OpenSpec.upto namesMeetsSpec)

/-- 'greatseallaw11.NamesOrder', WHERE WHAT IT READS IS OF BULK AT MOST 1048576: true; the input reads as it did. -/
def namesOrderUptoRow : OpenClaim := { program := "ytjjkonaopmipoaadoor", sum := "622e852cfb73b60319193083785f699eb2430fcf092604b70455a72c50b07ac9", func := "greatseal/greatseallaw11.NamesOrder", spec := "namesOrder", inPlace := ["internal/bytealg.CountString", "internal/bytealg.IndexByteString", "internal/bytealg.IndexString"], unfollowed := true, recurses := true, named := ["internal/bytealg.MaxLen", "unicode/utf8.first", "unicode/utf8.acceptRanges"], apart := false, laid := [("unicode/utf8.acceptRanges", laid_unicode_utf8_acceptRanges), ("unicode/utf8.first", laid_unicode_utf8_first)], narrowed := true }
def NamesOrderUptoSaid : Prop := namesOrderUptoRow.holds Tryd.pinned (OpenSpec.upto namesOrderSpec)

/-- 'greatseallaw11.NamesUp', WHERE WHAT IT READS IS OF BULK AT MOST 1048576: true; the input reads as it did. -/
def namesUpUptoRow : OpenClaim := { program := "ytjjkonaopmipoaadoor", sum := "622e852cfb73b60319193083785f699eb2430fcf092604b70455a72c50b07ac9", func := "greatseal/greatseallaw11.NamesUp", spec := "namesUp", inPlace := ["internal/bytealg.CountString", "internal/bytealg.IndexByteString", "internal/bytealg.IndexString"], unfollowed := true, recurses := true, named := ["internal/bytealg.MaxLen", "unicode/utf8.first", "unicode/utf8.acceptRanges"], apart := false, laid := [("unicode/utf8.acceptRanges", laid_unicode_utf8_acceptRanges), ("unicode/utf8.first", laid_unicode_utf8_first)], narrowed := true }
def NamesUpUptoSaid : Prop := namesUpUptoRow.holds Tryd.pinned (OpenSpec.upto namesUpSpec)

/-- 'greatseallaw11.NamesUnder', WHERE WHAT IT READS IS OF BULK AT MOST 1048576: true; the input reads as it did. -/
def namesUnderUptoRow : OpenClaim := { program := "ytjjkonaopmipoaadoor", sum := "622e852cfb73b60319193083785f699eb2430fcf092604b70455a72c50b07ac9", func := "greatseal/greatseallaw11.NamesUnder", spec := "namesUnder", inPlace := ["internal/bytealg.CountString", "internal/bytealg.IndexByteString", "internal/bytealg.IndexString"], unfollowed := true, recurses := true, named := ["internal/bytealg.MaxLen", "unicode/utf8.first", "unicode/utf8.acceptRanges"], apart := false, laid := [("unicode/utf8.acceptRanges", laid_unicode_utf8_acceptRanges), ("unicode/utf8.first", laid_unicode_utf8_first)], narrowed := true }
def NamesUnderUptoSaid : Prop := namesUnderUptoRow.holds Tryd.pinned (OpenSpec.upto namesUnderSpec)

/-- 'greatseallaw11.NamesLabel', WHERE WHAT IT READS IS OF BULK AT MOST 1048576: true; the input reads as it did. -/
def namesLabelUptoRow : OpenClaim := { program := "ytjjkonaopmipoaadoor", sum := "622e852cfb73b60319193083785f699eb2430fcf092604b70455a72c50b07ac9", func := "greatseal/greatseallaw11.NamesLabel", spec := "namesLabel", inPlace := ["internal/bytealg.CountString", "internal/bytealg.IndexByteString", "internal/bytealg.IndexString"], unfollowed := true, recurses := true, named := ["internal/bytealg.MaxLen", "unicode/utf8.first", "unicode/utf8.acceptRanges"], apart := false, laid := [("unicode/utf8.acceptRanges", laid_unicode_utf8_acceptRanges), ("unicode/utf8.first", laid_unicode_utf8_first)], narrowed := true }
def NamesLabelUptoSaid : Prop := namesLabelUptoRow.holds Tryd.pinned (OpenSpec.upto namesLabelSpec)

/-- 'greatseallaw11.NamesBytes', WHERE WHAT IT READS IS OF BULK AT MOST 1048576: true; the input reads as it did. -/
def namesBytesUptoRow : OpenClaim := { program := "ytjjkonaopmipoaadoor", sum := "622e852cfb73b60319193083785f699eb2430fcf092604b70455a72c50b07ac9", func := "greatseal/greatseallaw11.NamesBytes", spec := "namesBytes", inPlace := ["internal/bytealg.CountString", "internal/bytealg.IndexByteString", "internal/bytealg.IndexString"], unfollowed := true, recurses := true, named := ["internal/bytealg.MaxLen", "unicode/utf8.first", "unicode/utf8.acceptRanges"], apart := false, laid := [("unicode/utf8.acceptRanges", laid_unicode_utf8_acceptRanges), ("unicode/utf8.first", laid_unicode_utf8_first)], narrowed := true }
def NamesBytesUptoSaid : Prop := namesBytesUptoRow.holds Tryd.pinned (OpenSpec.upto namesBytesSpec)

end Rows
end Go.Proofs.YtjjkonaopmipoaaDoor
