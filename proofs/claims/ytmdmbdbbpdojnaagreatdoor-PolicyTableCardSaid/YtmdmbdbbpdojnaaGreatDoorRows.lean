/-
  NARROWER THAN 'FOR EVERY INPUT', by the rows' own cells (each row's printed sentence says how): PolicyMeans: laid · PolicyCompiles: laid · PolicySame: laid · PolicyEach: laid · PolicyOrder: laid · PolicyEases: laid · PolicyClashes: laid · PolicyTable: laid · PolicyMore: laid · PolicyNearest: laid.
  DERIVED. THE GIVEN ROWS OF THIS SEAT. 10 by the template 'for every input the law returns true; each argument reads behind the call as it read before'; 0 by the template 'total and deterministic' (their statements: YtmdmbdbbpdojnaaGreatDoorTotals.lean).
  GIVEN WITH THE SEED: the statements are not yours to turn. If you find one false, say at which input.
  Laid BY PROGRAM, IN A SANDBOX (cutbox-rows.mjs): the forced cells as the released guide's own fill.sh prints them over the translation db00191f051ae21d… (all of the seat's roots in one cut). By AI agents, Wed Nov 11 2026. No macro, syntax, notation, axiom, sorry.
-/
import Derived.Test.YtmdmbdbbpdojnaaGreatDoorChecked
import GoSem.PinnedTables
import GoSem.Claim
import GoSem.ClaimJoined
import GoSem.ClaimMapViews
import Derived.JoinedTies
import Derived.KernelRfl
namespace Go.Proofs.YtmdmbdbbpdojnaaGreatDoor
/- THE CELL 'sum', in the pinned program and in every row, IS THE sha256 OF THE DUMP (.gsa) THAT YtmdmbdbbpdojnaaGreatDoorProg.lean LOADS. Nothing in Lean hashes anything: it is a label: what it is worth is what the hold of that sum in a sandbox is worth. -/
noncomputable def Tryz.pinned : Pinned := { name := "ytmdmbdbbpdojnaagreatdoor", sum := "db00191f051ae21de695e4f738bd2674f935c3898b56dc8058a62797babc09d8", checked := Tryz.checked }
namespace Rows
def none {H : Type} : Left H := { results := [], args := [] }

/- WHAT THE LISTED PACKAGE-LEVEL VARIABLES READ AS WHEN THE CALL BEGINS. Each datum BY PROGRAM (the guide's laid-datum.mjs) off the statement by which the dump's own 'gosem.cut.vars' lays the variable. In a bare row this is a premise. The card (YtmdmbdbbpdojnaaGreatDoorCards.lean) ties it to the program's text. -/
def laid_unicode_utf8_acceptRanges {H : Type} : DataW H := .agg [.agg [.lit (.int .u8 128), .lit (.int .u8 191)], .agg [.lit (.int .u8 160), .lit (.int .u8 191)], .agg [.lit (.int .u8 128), .lit (.int .u8 159)], .agg [.lit (.int .u8 144), .lit (.int .u8 191)], .agg [.lit (.int .u8 128), .lit (.int .u8 143)], .agg [.lit (.int .u8 0), .lit (.int .u8 0)], .agg [.lit (.int .u8 0), .lit (.int .u8 0)], .agg [.lit (.int .u8 0), .lit (.int .u8 0)], .agg [.lit (.int .u8 0), .lit (.int .u8 0)], .agg [.lit (.int .u8 0), .lit (.int .u8 0)], .agg [.lit (.int .u8 0), .lit (.int .u8 0)], .agg [.lit (.int .u8 0), .lit (.int .u8 0)], .agg [.lit (.int .u8 0), .lit (.int .u8 0)], .agg [.lit (.int .u8 0), .lit (.int .u8 0)], .agg [.lit (.int .u8 0), .lit (.int .u8 0)], .agg [.lit (.int .u8 0), .lit (.int .u8 0)]]
/-- One of Go's own tables, pinned by name: the form's constant. -/
def laid_unicode_utf8_first : DataW Unit := Go.Pinned.utf8First

/-- 'greatseallaw16.PolicyMeans': WHATEVER THE INPUT: true; the input reads as it did. -/
def policyMeansSpec : ChangeSpec := { name := "policyMeans", fn := fun _ => fun
  | [d1, d2, d3] => { results := [.lit (.bool true)], args := [d1, d2, d3] }
  | _ => none }
def policyMeansRow : OpenClaim := { program := "ytmdmbdbbpdojnaagreatdoor", sum := "db00191f051ae21de695e4f738bd2674f935c3898b56dc8058a62797babc09d8", func := "greatseal/greatseallaw16.PolicyMeans", spec := "policyMeans", inPlace := ["internal/bytealg.CountString", "internal/bytealg.IndexByteString", "internal/bytealg.IndexString"], unfollowed := true, recurses := true, named := ["internal/bytealg.MaxLen", "unicode/utf8.first", "unicode/utf8.acceptRanges"], plainKeys := false, apart := false, laid := [("unicode/utf8.acceptRanges", laid_unicode_utf8_acceptRanges), ("unicode/utf8.first", laid_unicode_utf8_first)] }
def PolicyMeansSaid : Prop := policyMeansRow.holds Tryz.pinned (OpenSpec.ofChange policyMeansSpec)

/-- ITS FALSE NEIGHBOUR: 'it returns false'. Refute it at one input. -/
def policyMeansWrong : ChangeSpec := { name := "policyMeans", fn := fun _ => fun
  | [d1, d2, d3] => { results := [.lit (.bool false)], args := [d1, d2, d3] }
  | _ => none }
def PolicyMeansWrongFalsely : Prop := policyMeansRow.holds Tryz.pinned (OpenSpec.ofChange policyMeansWrong)

/-- 'greatseallaw16.PolicyCompiles': WHATEVER THE INPUT: true; the input reads as it did. -/
def policyCompilesSpec : ChangeSpec := { name := "policyCompiles", fn := fun _ => fun
  | [d1, d2, d3] => { results := [.lit (.bool true)], args := [d1, d2, d3] }
  | _ => none }
def policyCompilesRow : OpenClaim := { program := "ytmdmbdbbpdojnaagreatdoor", sum := "db00191f051ae21de695e4f738bd2674f935c3898b56dc8058a62797babc09d8", func := "greatseal/greatseallaw16.PolicyCompiles", spec := "policyCompiles", inPlace := ["internal/bytealg.CountString", "internal/bytealg.IndexByteString", "internal/bytealg.IndexString"], unfollowed := true, recurses := true, named := ["internal/bytealg.MaxLen", "unicode/utf8.first", "unicode/utf8.acceptRanges"], plainKeys := false, apart := false, laid := [("unicode/utf8.acceptRanges", laid_unicode_utf8_acceptRanges), ("unicode/utf8.first", laid_unicode_utf8_first)] }
def PolicyCompilesSaid : Prop := policyCompilesRow.holds Tryz.pinned (OpenSpec.ofChange policyCompilesSpec)

/-- ITS FALSE NEIGHBOUR: 'it returns false'. Refute it at one input. -/
def policyCompilesWrong : ChangeSpec := { name := "policyCompiles", fn := fun _ => fun
  | [d1, d2, d3] => { results := [.lit (.bool false)], args := [d1, d2, d3] }
  | _ => none }
def PolicyCompilesWrongFalsely : Prop := policyCompilesRow.holds Tryz.pinned (OpenSpec.ofChange policyCompilesWrong)

/-- 'greatseallaw16.PolicySame': WHATEVER THE INPUT: true; the input reads as it did. -/
def policySameSpec : ChangeSpec := { name := "policySame", fn := fun _ => fun
  | [d1, d2] => { results := [.lit (.bool true)], args := [d1, d2] }
  | _ => none }
def policySameRow : OpenClaim := { program := "ytmdmbdbbpdojnaagreatdoor", sum := "db00191f051ae21de695e4f738bd2674f935c3898b56dc8058a62797babc09d8", func := "greatseal/greatseallaw16.PolicySame", spec := "policySame", inPlace := ["internal/bytealg.CountString", "internal/bytealg.IndexByteString", "internal/bytealg.IndexString"], unfollowed := true, recurses := true, named := ["internal/bytealg.MaxLen", "unicode/utf8.first", "unicode/utf8.acceptRanges"], plainKeys := false, apart := false, laid := [("unicode/utf8.acceptRanges", laid_unicode_utf8_acceptRanges), ("unicode/utf8.first", laid_unicode_utf8_first)] }
def PolicySameSaid : Prop := policySameRow.holds Tryz.pinned (OpenSpec.ofChange policySameSpec)

/-- ITS FALSE NEIGHBOUR: 'it returns false'. Refute it at one input. -/
def policySameWrong : ChangeSpec := { name := "policySame", fn := fun _ => fun
  | [d1, d2] => { results := [.lit (.bool false)], args := [d1, d2] }
  | _ => none }
def PolicySameWrongFalsely : Prop := policySameRow.holds Tryz.pinned (OpenSpec.ofChange policySameWrong)

/-- 'greatseallaw16.PolicyEach': WHATEVER THE INPUT: true; the input reads as it did. -/
def policyEachSpec : ChangeSpec := { name := "policyEach", fn := fun _ => fun
  | [d1, d2] => { results := [.lit (.bool true)], args := [d1, d2] }
  | _ => none }
def policyEachRow : OpenClaim := { program := "ytmdmbdbbpdojnaagreatdoor", sum := "db00191f051ae21de695e4f738bd2674f935c3898b56dc8058a62797babc09d8", func := "greatseal/greatseallaw16.PolicyEach", spec := "policyEach", inPlace := ["internal/bytealg.CountString", "internal/bytealg.IndexByteString", "internal/bytealg.IndexString"], unfollowed := true, recurses := true, named := ["internal/bytealg.MaxLen", "unicode/utf8.first", "unicode/utf8.acceptRanges"], plainKeys := false, apart := false, laid := [("unicode/utf8.acceptRanges", laid_unicode_utf8_acceptRanges), ("unicode/utf8.first", laid_unicode_utf8_first)] }
def PolicyEachSaid : Prop := policyEachRow.holds Tryz.pinned (OpenSpec.ofChange policyEachSpec)

/-- ITS FALSE NEIGHBOUR: 'it returns false'. Refute it at one input. -/
def policyEachWrong : ChangeSpec := { name := "policyEach", fn := fun _ => fun
  | [d1, d2] => { results := [.lit (.bool false)], args := [d1, d2] }
  | _ => none }
def PolicyEachWrongFalsely : Prop := policyEachRow.holds Tryz.pinned (OpenSpec.ofChange policyEachWrong)

/-- 'greatseallaw16.PolicyOrder': WHATEVER THE INPUT: true; the input reads as it did. -/
def policyOrderSpec : ChangeSpec := { name := "policyOrder", fn := fun _ => fun
  | [d1, d2] => { results := [.lit (.bool true)], args := [d1, d2] }
  | _ => none }
def policyOrderRow : OpenClaim := { program := "ytmdmbdbbpdojnaagreatdoor", sum := "db00191f051ae21de695e4f738bd2674f935c3898b56dc8058a62797babc09d8", func := "greatseal/greatseallaw16.PolicyOrder", spec := "policyOrder", inPlace := ["internal/bytealg.CountString", "internal/bytealg.IndexByteString", "internal/bytealg.IndexString"], unfollowed := true, recurses := true, named := ["internal/bytealg.MaxLen", "unicode/utf8.first", "unicode/utf8.acceptRanges"], plainKeys := false, apart := false, laid := [("unicode/utf8.acceptRanges", laid_unicode_utf8_acceptRanges), ("unicode/utf8.first", laid_unicode_utf8_first)] }
def PolicyOrderSaid : Prop := policyOrderRow.holds Tryz.pinned (OpenSpec.ofChange policyOrderSpec)

/-- ITS FALSE NEIGHBOUR: 'it returns false'. Refute it at one input. -/
def policyOrderWrong : ChangeSpec := { name := "policyOrder", fn := fun _ => fun
  | [d1, d2] => { results := [.lit (.bool false)], args := [d1, d2] }
  | _ => none }
def PolicyOrderWrongFalsely : Prop := policyOrderRow.holds Tryz.pinned (OpenSpec.ofChange policyOrderWrong)

/-- 'greatseallaw16.PolicyEases': WHATEVER THE INPUT: true; the input reads as it did. -/
def policyEasesSpec : ChangeSpec := { name := "policyEases", fn := fun _ => fun
  | [d1, d2, d3, d4] => { results := [.lit (.bool true)], args := [d1, d2, d3, d4] }
  | _ => none }
def policyEasesRow : OpenClaim := { program := "ytmdmbdbbpdojnaagreatdoor", sum := "db00191f051ae21de695e4f738bd2674f935c3898b56dc8058a62797babc09d8", func := "greatseal/greatseallaw16.PolicyEases", spec := "policyEases", inPlace := ["internal/bytealg.CountString", "internal/bytealg.IndexByteString", "internal/bytealg.IndexString"], unfollowed := true, recurses := true, named := ["internal/bytealg.MaxLen", "unicode/utf8.first", "unicode/utf8.acceptRanges"], plainKeys := false, apart := false, laid := [("unicode/utf8.acceptRanges", laid_unicode_utf8_acceptRanges), ("unicode/utf8.first", laid_unicode_utf8_first)] }
def PolicyEasesSaid : Prop := policyEasesRow.holds Tryz.pinned (OpenSpec.ofChange policyEasesSpec)

/-- ITS FALSE NEIGHBOUR: 'it returns false'. Refute it at one input. -/
def policyEasesWrong : ChangeSpec := { name := "policyEases", fn := fun _ => fun
  | [d1, d2, d3, d4] => { results := [.lit (.bool false)], args := [d1, d2, d3, d4] }
  | _ => none }
def PolicyEasesWrongFalsely : Prop := policyEasesRow.holds Tryz.pinned (OpenSpec.ofChange policyEasesWrong)

/-- 'greatseallaw16.PolicyClashes': WHATEVER THE INPUT: true; the input reads as it did. -/
def policyClashesSpec : ChangeSpec := { name := "policyClashes", fn := fun _ => fun
  | [d1, d2] => { results := [.lit (.bool true)], args := [d1, d2] }
  | _ => none }
def policyClashesRow : OpenClaim := { program := "ytmdmbdbbpdojnaagreatdoor", sum := "db00191f051ae21de695e4f738bd2674f935c3898b56dc8058a62797babc09d8", func := "greatseal/greatseallaw16.PolicyClashes", spec := "policyClashes", inPlace := ["internal/bytealg.CountString", "internal/bytealg.IndexByteString", "internal/bytealg.IndexString"], unfollowed := true, recurses := true, named := ["internal/bytealg.MaxLen", "unicode/utf8.first", "unicode/utf8.acceptRanges"], plainKeys := false, apart := false, laid := [("unicode/utf8.acceptRanges", laid_unicode_utf8_acceptRanges), ("unicode/utf8.first", laid_unicode_utf8_first)] }
def PolicyClashesSaid : Prop := policyClashesRow.holds Tryz.pinned (OpenSpec.ofChange policyClashesSpec)

/-- ITS FALSE NEIGHBOUR: 'it returns false'. Refute it at one input. -/
def policyClashesWrong : ChangeSpec := { name := "policyClashes", fn := fun _ => fun
  | [d1, d2] => { results := [.lit (.bool false)], args := [d1, d2] }
  | _ => none }
def PolicyClashesWrongFalsely : Prop := policyClashesRow.holds Tryz.pinned (OpenSpec.ofChange policyClashesWrong)

/-- 'greatseallaw16.PolicyTable': WHATEVER THE INPUT: true; the input reads as it did. -/
def policyTableSpec : ChangeSpec := { name := "policyTable", fn := fun _ => fun
  | [d1, d2, d3, d4] => { results := [.lit (.bool true)], args := [d1, d2, d3, d4] }
  | _ => none }
def policyTableRow : OpenClaim := { program := "ytmdmbdbbpdojnaagreatdoor", sum := "db00191f051ae21de695e4f738bd2674f935c3898b56dc8058a62797babc09d8", func := "greatseal/greatseallaw16.PolicyTable", spec := "policyTable", inPlace := ["internal/bytealg.CountString", "internal/bytealg.IndexByteString", "internal/bytealg.IndexString"], unfollowed := true, recurses := true, named := ["internal/bytealg.MaxLen", "unicode/utf8.first", "unicode/utf8.acceptRanges"], plainKeys := false, apart := false, laid := [("unicode/utf8.acceptRanges", laid_unicode_utf8_acceptRanges), ("unicode/utf8.first", laid_unicode_utf8_first)] }
def PolicyTableSaid : Prop := policyTableRow.holds Tryz.pinned (OpenSpec.ofChange policyTableSpec)

/-- ITS FALSE NEIGHBOUR: 'it returns false'. Refute it at one input. -/
def policyTableWrong : ChangeSpec := { name := "policyTable", fn := fun _ => fun
  | [d1, d2, d3, d4] => { results := [.lit (.bool false)], args := [d1, d2, d3, d4] }
  | _ => none }
def PolicyTableWrongFalsely : Prop := policyTableRow.holds Tryz.pinned (OpenSpec.ofChange policyTableWrong)

/-- 'greatseallaw16.PolicyMore': WHATEVER THE INPUT: true; the input reads as it did. -/
def policyMoreSpec : ChangeSpec := { name := "policyMore", fn := fun _ => fun
  | [d1, d2, d3] => { results := [.lit (.bool true)], args := [d1, d2, d3] }
  | _ => none }
def policyMoreRow : OpenClaim := { program := "ytmdmbdbbpdojnaagreatdoor", sum := "db00191f051ae21de695e4f738bd2674f935c3898b56dc8058a62797babc09d8", func := "greatseal/greatseallaw16.PolicyMore", spec := "policyMore", inPlace := ["internal/bytealg.CountString", "internal/bytealg.IndexByteString", "internal/bytealg.IndexString"], unfollowed := true, recurses := true, named := ["internal/bytealg.MaxLen", "unicode/utf8.first", "unicode/utf8.acceptRanges"], plainKeys := false, apart := false, laid := [("unicode/utf8.acceptRanges", laid_unicode_utf8_acceptRanges), ("unicode/utf8.first", laid_unicode_utf8_first)] }
def PolicyMoreSaid : Prop := policyMoreRow.holds Tryz.pinned (OpenSpec.ofChange policyMoreSpec)

/-- ITS FALSE NEIGHBOUR: 'it returns false'. Refute it at one input. -/
def policyMoreWrong : ChangeSpec := { name := "policyMore", fn := fun _ => fun
  | [d1, d2, d3] => { results := [.lit (.bool false)], args := [d1, d2, d3] }
  | _ => none }
def PolicyMoreWrongFalsely : Prop := policyMoreRow.holds Tryz.pinned (OpenSpec.ofChange policyMoreWrong)

/-- 'greatseallaw16.PolicyNearest': WHATEVER THE INPUT: true; the input reads as it did. -/
def policyNearestSpec : ChangeSpec := { name := "policyNearest", fn := fun _ => fun
  | [d1, d2] => { results := [.lit (.bool true)], args := [d1, d2] }
  | _ => none }
def policyNearestRow : OpenClaim := { program := "ytmdmbdbbpdojnaagreatdoor", sum := "db00191f051ae21de695e4f738bd2674f935c3898b56dc8058a62797babc09d8", func := "greatseal/greatseallaw16.PolicyNearest", spec := "policyNearest", inPlace := ["internal/bytealg.CountString", "internal/bytealg.IndexByteString", "internal/bytealg.IndexString"], unfollowed := true, recurses := true, named := ["internal/bytealg.MaxLen", "unicode/utf8.first", "unicode/utf8.acceptRanges"], plainKeys := false, apart := false, laid := [("unicode/utf8.acceptRanges", laid_unicode_utf8_acceptRanges), ("unicode/utf8.first", laid_unicode_utf8_first)] }
def PolicyNearestSaid : Prop := policyNearestRow.holds Tryz.pinned (OpenSpec.ofChange policyNearestSpec)

/-- ITS FALSE NEIGHBOUR: 'it returns false'. Refute it at one input. -/
def policyNearestWrong : ChangeSpec := { name := "policyNearest", fn := fun _ => fun
  | [d1, d2] => { results := [.lit (.bool false)], args := [d1, d2] }
  | _ => none }
def PolicyNearestWrongFalsely : Prop := policyNearestRow.holds Tryz.pinned (OpenSpec.ofChange policyNearestWrong)

/- THE SECOND FORM. 'bulk': how many values and letters a reading holds, each counted each time it is reached (what is shared counts as often as it is met; a slice's spare places count too). A statement '..UptoSaid' is the law's where the arguments, and the package variables that the reading takes, are together of bulk at most 1048576: NARROWER than '..Said'. Prove '..Said' where nothing that the law and all that it calls make is longer than what came in: it says more and counts as full. Else prove '..UptoSaid'. A law counts once. -/
mutual
def uptoBulk {H : Type} : DataW H → Nat
  | .lit (.string bytes) => bytes.length + 1
  | .lit _ => 1
  | .nil => 1
  | .ptr d => uptoBulk d + 1
  | .slice elems spare => uptoBulkAll elems + uptoBulkAll spare + 1
  | .agg parts => uptoBulkAll parts + 1
  | .iface _ d => uptoBulk d + 1
  | .map entries => uptoBulkEntries entries + 1
  | .held _ => 1
def uptoBulkAll {H : Type} : List (DataW H) → Nat
  | [] => 0
  | d :: r => uptoBulk d + uptoBulkAll r
def uptoBulkEntries {H : Type} : List (Lit × DataW H) → Nat
  | [] => 0
  | x :: r => uptoBulkEntry x + uptoBulkEntries r
def uptoBulkEntry {H : Type} : Lit × DataW H → Nat
  | (.string bytes, d) => bytes.length + uptoBulk d + 1
  | (_, d) => uptoBulk d + 1
 end
def uptoSmall : (H : Type) → List (DataW H) → Bool := fun _ ds => decide (uptoBulkAll ds ≤ 1048576)
def OpenSpec.upto (s : _root_.Go.ChangeSpec) : _root_.Go.OpenSpec := { _root_.Go.OpenSpec.ofChange s with cond := some uptoSmall }

/-- 'greatseallaw16.PolicyMeans', WHERE WHAT IT READS IS OF BULK AT MOST 1048576: true; the input reads as it did. -/
def policyMeansUptoRow : OpenClaim := { program := "ytmdmbdbbpdojnaagreatdoor", sum := "db00191f051ae21de695e4f738bd2674f935c3898b56dc8058a62797babc09d8", func := "greatseal/greatseallaw16.PolicyMeans", spec := "policyMeans", inPlace := ["internal/bytealg.CountString", "internal/bytealg.IndexByteString", "internal/bytealg.IndexString"], unfollowed := true, recurses := true, named := ["internal/bytealg.MaxLen", "unicode/utf8.first", "unicode/utf8.acceptRanges"], plainKeys := false, apart := false, laid := [("unicode/utf8.acceptRanges", laid_unicode_utf8_acceptRanges), ("unicode/utf8.first", laid_unicode_utf8_first)], narrowed := true }
def PolicyMeansUptoSaid : Prop := policyMeansUptoRow.holds Tryz.pinned (OpenSpec.upto policyMeansSpec)

/-- 'greatseallaw16.PolicyCompiles', WHERE WHAT IT READS IS OF BULK AT MOST 1048576: true; the input reads as it did. -/
def policyCompilesUptoRow : OpenClaim := { program := "ytmdmbdbbpdojnaagreatdoor", sum := "db00191f051ae21de695e4f738bd2674f935c3898b56dc8058a62797babc09d8", func := "greatseal/greatseallaw16.PolicyCompiles", spec := "policyCompiles", inPlace := ["internal/bytealg.CountString", "internal/bytealg.IndexByteString", "internal/bytealg.IndexString"], unfollowed := true, recurses := true, named := ["internal/bytealg.MaxLen", "unicode/utf8.first", "unicode/utf8.acceptRanges"], plainKeys := false, apart := false, laid := [("unicode/utf8.acceptRanges", laid_unicode_utf8_acceptRanges), ("unicode/utf8.first", laid_unicode_utf8_first)], narrowed := true }
def PolicyCompilesUptoSaid : Prop := policyCompilesUptoRow.holds Tryz.pinned (OpenSpec.upto policyCompilesSpec)

/-- 'greatseallaw16.PolicySame', WHERE WHAT IT READS IS OF BULK AT MOST 1048576: true; the input reads as it did. -/
def policySameUptoRow : OpenClaim := { program := "ytmdmbdbbpdojnaagreatdoor", sum := "db00191f051ae21de695e4f738bd2674f935c3898b56dc8058a62797babc09d8", func := "greatseal/greatseallaw16.PolicySame", spec := "policySame", inPlace := ["internal/bytealg.CountString", "internal/bytealg.IndexByteString", "internal/bytealg.IndexString"], unfollowed := true, recurses := true, named := ["internal/bytealg.MaxLen", "unicode/utf8.first", "unicode/utf8.acceptRanges"], plainKeys := false, apart := false, laid := [("unicode/utf8.acceptRanges", laid_unicode_utf8_acceptRanges), ("unicode/utf8.first", laid_unicode_utf8_first)], narrowed := true }
def PolicySameUptoSaid : Prop := policySameUptoRow.holds Tryz.pinned (OpenSpec.upto policySameSpec)

/-- 'greatseallaw16.PolicyEach', WHERE WHAT IT READS IS OF BULK AT MOST 1048576: true; the input reads as it did. -/
def policyEachUptoRow : OpenClaim := { program := "ytmdmbdbbpdojnaagreatdoor", sum := "db00191f051ae21de695e4f738bd2674f935c3898b56dc8058a62797babc09d8", func := "greatseal/greatseallaw16.PolicyEach", spec := "policyEach", inPlace := ["internal/bytealg.CountString", "internal/bytealg.IndexByteString", "internal/bytealg.IndexString"], unfollowed := true, recurses := true, named := ["internal/bytealg.MaxLen", "unicode/utf8.first", "unicode/utf8.acceptRanges"], plainKeys := false, apart := false, laid := [("unicode/utf8.acceptRanges", laid_unicode_utf8_acceptRanges), ("unicode/utf8.first", laid_unicode_utf8_first)], narrowed := true }
def PolicyEachUptoSaid : Prop := policyEachUptoRow.holds Tryz.pinned (OpenSpec.upto policyEachSpec)

/-- 'greatseallaw16.PolicyOrder', WHERE WHAT IT READS IS OF BULK AT MOST 1048576: true; the input reads as it did. -/
def policyOrderUptoRow : OpenClaim := { program := "ytmdmbdbbpdojnaagreatdoor", sum := "db00191f051ae21de695e4f738bd2674f935c3898b56dc8058a62797babc09d8", func := "greatseal/greatseallaw16.PolicyOrder", spec := "policyOrder", inPlace := ["internal/bytealg.CountString", "internal/bytealg.IndexByteString", "internal/bytealg.IndexString"], unfollowed := true, recurses := true, named := ["internal/bytealg.MaxLen", "unicode/utf8.first", "unicode/utf8.acceptRanges"], plainKeys := false, apart := false, laid := [("unicode/utf8.acceptRanges", laid_unicode_utf8_acceptRanges), ("unicode/utf8.first", laid_unicode_utf8_first)], narrowed := true }
def PolicyOrderUptoSaid : Prop := policyOrderUptoRow.holds Tryz.pinned (OpenSpec.upto policyOrderSpec)

/-- 'greatseallaw16.PolicyEases', WHERE WHAT IT READS IS OF BULK AT MOST 1048576: true; the input reads as it did. -/
def policyEasesUptoRow : OpenClaim := { program := "ytmdmbdbbpdojnaagreatdoor", sum := "db00191f051ae21de695e4f738bd2674f935c3898b56dc8058a62797babc09d8", func := "greatseal/greatseallaw16.PolicyEases", spec := "policyEases", inPlace := ["internal/bytealg.CountString", "internal/bytealg.IndexByteString", "internal/bytealg.IndexString"], unfollowed := true, recurses := true, named := ["internal/bytealg.MaxLen", "unicode/utf8.first", "unicode/utf8.acceptRanges"], plainKeys := false, apart := false, laid := [("unicode/utf8.acceptRanges", laid_unicode_utf8_acceptRanges), ("unicode/utf8.first", laid_unicode_utf8_first)], narrowed := true }
def PolicyEasesUptoSaid : Prop := policyEasesUptoRow.holds Tryz.pinned (OpenSpec.upto policyEasesSpec)

/-- 'greatseallaw16.PolicyClashes', WHERE WHAT IT READS IS OF BULK AT MOST 1048576: true; the input reads as it did. -/
def policyClashesUptoRow : OpenClaim := { program := "ytmdmbdbbpdojnaagreatdoor", sum := "db00191f051ae21de695e4f738bd2674f935c3898b56dc8058a62797babc09d8", func := "greatseal/greatseallaw16.PolicyClashes", spec := "policyClashes", inPlace := ["internal/bytealg.CountString", "internal/bytealg.IndexByteString", "internal/bytealg.IndexString"], unfollowed := true, recurses := true, named := ["internal/bytealg.MaxLen", "unicode/utf8.first", "unicode/utf8.acceptRanges"], plainKeys := false, apart := false, laid := [("unicode/utf8.acceptRanges", laid_unicode_utf8_acceptRanges), ("unicode/utf8.first", laid_unicode_utf8_first)], narrowed := true }
def PolicyClashesUptoSaid : Prop := policyClashesUptoRow.holds Tryz.pinned (OpenSpec.upto policyClashesSpec)

/-- 'greatseallaw16.PolicyTable', WHERE WHAT IT READS IS OF BULK AT MOST 1048576: true; the input reads as it did. -/
def policyTableUptoRow : OpenClaim := { program := "ytmdmbdbbpdojnaagreatdoor", sum := "db00191f051ae21de695e4f738bd2674f935c3898b56dc8058a62797babc09d8", func := "greatseal/greatseallaw16.PolicyTable", spec := "policyTable", inPlace := ["internal/bytealg.CountString", "internal/bytealg.IndexByteString", "internal/bytealg.IndexString"], unfollowed := true, recurses := true, named := ["internal/bytealg.MaxLen", "unicode/utf8.first", "unicode/utf8.acceptRanges"], plainKeys := false, apart := false, laid := [("unicode/utf8.acceptRanges", laid_unicode_utf8_acceptRanges), ("unicode/utf8.first", laid_unicode_utf8_first)], narrowed := true }
def PolicyTableUptoSaid : Prop := policyTableUptoRow.holds Tryz.pinned (OpenSpec.upto policyTableSpec)

/-- 'greatseallaw16.PolicyMore', WHERE WHAT IT READS IS OF BULK AT MOST 1048576: true; the input reads as it did. -/
def policyMoreUptoRow : OpenClaim := { program := "ytmdmbdbbpdojnaagreatdoor", sum := "db00191f051ae21de695e4f738bd2674f935c3898b56dc8058a62797babc09d8", func := "greatseal/greatseallaw16.PolicyMore", spec := "policyMore", inPlace := ["internal/bytealg.CountString", "internal/bytealg.IndexByteString", "internal/bytealg.IndexString"], unfollowed := true, recurses := true, named := ["internal/bytealg.MaxLen", "unicode/utf8.first", "unicode/utf8.acceptRanges"], plainKeys := false, apart := false, laid := [("unicode/utf8.acceptRanges", laid_unicode_utf8_acceptRanges), ("unicode/utf8.first", laid_unicode_utf8_first)], narrowed := true }
def PolicyMoreUptoSaid : Prop := policyMoreUptoRow.holds Tryz.pinned (OpenSpec.upto policyMoreSpec)

/-- 'greatseallaw16.PolicyNearest', WHERE WHAT IT READS IS OF BULK AT MOST 1048576: true; the input reads as it did. -/
def policyNearestUptoRow : OpenClaim := { program := "ytmdmbdbbpdojnaagreatdoor", sum := "db00191f051ae21de695e4f738bd2674f935c3898b56dc8058a62797babc09d8", func := "greatseal/greatseallaw16.PolicyNearest", spec := "policyNearest", inPlace := ["internal/bytealg.CountString", "internal/bytealg.IndexByteString", "internal/bytealg.IndexString"], unfollowed := true, recurses := true, named := ["internal/bytealg.MaxLen", "unicode/utf8.first", "unicode/utf8.acceptRanges"], plainKeys := false, apart := false, laid := [("unicode/utf8.acceptRanges", laid_unicode_utf8_acceptRanges), ("unicode/utf8.first", laid_unicode_utf8_first)], narrowed := true }
def PolicyNearestUptoSaid : Prop := policyNearestUptoRow.holds Tryz.pinned (OpenSpec.upto policyNearestSpec)

end Rows
end Go.Proofs.YtmdmbdbbpdojnaaGreatDoor
