/-
  NARROWER THAN 'FOR EVERY INPUT', by the rows' own cells (each row's printed sentence says how): SnapNames: laid · SnapCommands: laid · SnapTold: laid · DeskAsks: laid · DeskNames: laid · DeskFinds: laid · DeskEnds: laid · DeskRefuses: laid · DeskSends: laid · DeskCloses: laid · VaultNames: laid · VaultAgain: laid.
  DERIVED. THE GIVEN ROWS OF THIS SEAT. 12 by the template 'for every input the law returns true; each argument reads behind the call as it read before'; 0 by the template 'total and deterministic' (their statements: YthpngchngnaloaaGreatDoorTotals.lean).
  GIVEN WITH THE SEED: the statements are not yours to turn. If you find one false, say at which input.
  Laid BY PROGRAM, IN A SANDBOX (cutbox-rows.mjs): the forced cells as the released guide's own fill.sh prints them over the translation 691e4ecc7380a052… (all of the seat's roots in one cut). By AI agents, Wed Nov 11 2026. No macro, syntax, notation, axiom, sorry.
-/
import Derived.Test.YthpngchngnaloaaGreatDoorChecked
import GoSem.PinnedTables
import GoSem.Claim
import GoSem.ClaimJoined
import GoSem.ClaimMapViews
import Derived.JoinedTies
import Derived.KernelRfl
namespace Go.Proofs.YthpngchngnaloaaGreatDoor
/- THE CELL 'sum', in the pinned program and in every row, IS THE sha256 OF THE DUMP (.gsa) THAT YthpngchngnaloaaGreatDoorProg.lean LOADS. Nothing in Lean hashes anything: it is a label: what it is worth is what the hold of that sum in a sandbox is worth. -/
noncomputable def Tryz.pinned : Pinned := { name := "ythpngchngnaloaagreatdoor", sum := "691e4ecc7380a052d321453f9cb091c9addb0d288201e11923162824e4d05ccc", checked := Tryz.checked }
namespace Rows
def none {H : Type} : Left H := { results := [], args := [] }

/- WHAT THE LISTED PACKAGE-LEVEL VARIABLES READ AS WHEN THE CALL BEGINS. Each datum BY PROGRAM (the guide's laid-datum.mjs) off the statement by which the dump's own 'gosem.cut.vars' lays the variable. In a bare row this is a premise. The card (YthpngchngnaloaaGreatDoorCards.lean) ties it to the program's text. -/
def laid_unicode_utf8_acceptRanges {H : Type} : DataW H := .agg [.agg [.lit (.int .u8 128), .lit (.int .u8 191)], .agg [.lit (.int .u8 160), .lit (.int .u8 191)], .agg [.lit (.int .u8 128), .lit (.int .u8 159)], .agg [.lit (.int .u8 144), .lit (.int .u8 191)], .agg [.lit (.int .u8 128), .lit (.int .u8 143)], .agg [.lit (.int .u8 0), .lit (.int .u8 0)], .agg [.lit (.int .u8 0), .lit (.int .u8 0)], .agg [.lit (.int .u8 0), .lit (.int .u8 0)], .agg [.lit (.int .u8 0), .lit (.int .u8 0)], .agg [.lit (.int .u8 0), .lit (.int .u8 0)], .agg [.lit (.int .u8 0), .lit (.int .u8 0)], .agg [.lit (.int .u8 0), .lit (.int .u8 0)], .agg [.lit (.int .u8 0), .lit (.int .u8 0)], .agg [.lit (.int .u8 0), .lit (.int .u8 0)], .agg [.lit (.int .u8 0), .lit (.int .u8 0)], .agg [.lit (.int .u8 0), .lit (.int .u8 0)]]
/-- One of Go's own tables, pinned by name: the form's constant. -/
def laid_unicode_utf8_first : DataW Unit := Go.Pinned.utf8First

/-- 'packhorselaw16.SnapNames': WHATEVER THE INPUT: true; the input reads as it did. -/
def snapNamesSpec : ChangeSpec := { name := "snapNames", fn := fun _ => fun
  | [] => { results := [.lit (.bool true)], args := [] }
  | _ => none }
def snapNamesRow : OpenClaim := { program := "ythpngchngnaloaagreatdoor", sum := "691e4ecc7380a052d321453f9cb091c9addb0d288201e11923162824e4d05ccc", func := "packhorse/packhorselaw16.SnapNames", spec := "snapNames", inPlace := ["internal/bytealg.abigen_runtime_cmpstring"], unfollowed := true, recurses := true, named := ["unicode/utf8.first", "unicode/utf8.acceptRanges"], plainKeys := false, apart := false, laid := [("unicode/utf8.acceptRanges", laid_unicode_utf8_acceptRanges), ("unicode/utf8.first", laid_unicode_utf8_first)] }
def SnapNamesSaid : Prop := snapNamesRow.holds Tryz.pinned (OpenSpec.ofChange snapNamesSpec)

/-- ITS FALSE NEIGHBOUR: 'it returns false'. Refute it at one input. -/
def snapNamesWrong : ChangeSpec := { name := "snapNames", fn := fun _ => fun
  | [] => { results := [.lit (.bool false)], args := [] }
  | _ => none }
def SnapNamesWrongFalsely : Prop := snapNamesRow.holds Tryz.pinned (OpenSpec.ofChange snapNamesWrong)

/-- 'packhorselaw16.SnapCommands': WHATEVER THE INPUT: true; the input reads as it did. -/
def snapCommandsSpec : ChangeSpec := { name := "snapCommands", fn := fun _ => fun
  | [d1, d2] => { results := [.lit (.bool true)], args := [d1, d2] }
  | _ => none }
def snapCommandsRow : OpenClaim := { program := "ythpngchngnaloaagreatdoor", sum := "691e4ecc7380a052d321453f9cb091c9addb0d288201e11923162824e4d05ccc", func := "packhorse/packhorselaw16.SnapCommands", spec := "snapCommands", inPlace := ["internal/bytealg.abigen_runtime_cmpstring"], unfollowed := true, recurses := true, named := ["unicode/utf8.first", "unicode/utf8.acceptRanges"], plainKeys := false, apart := false, laid := [("unicode/utf8.acceptRanges", laid_unicode_utf8_acceptRanges), ("unicode/utf8.first", laid_unicode_utf8_first)] }
def SnapCommandsSaid : Prop := snapCommandsRow.holds Tryz.pinned (OpenSpec.ofChange snapCommandsSpec)

/-- ITS FALSE NEIGHBOUR: 'it returns false'. Refute it at one input. -/
def snapCommandsWrong : ChangeSpec := { name := "snapCommands", fn := fun _ => fun
  | [d1, d2] => { results := [.lit (.bool false)], args := [d1, d2] }
  | _ => none }
def SnapCommandsWrongFalsely : Prop := snapCommandsRow.holds Tryz.pinned (OpenSpec.ofChange snapCommandsWrong)

/-- 'packhorselaw16.SnapTold': WHATEVER THE INPUT: true; the input reads as it did. -/
def snapToldSpec : ChangeSpec := { name := "snapTold", fn := fun _ => fun
  | [d] => { results := [.lit (.bool true)], args := [d] }
  | _ => none }
def snapToldRow : OpenClaim := { program := "ythpngchngnaloaagreatdoor", sum := "691e4ecc7380a052d321453f9cb091c9addb0d288201e11923162824e4d05ccc", func := "packhorse/packhorselaw16.SnapTold", spec := "snapTold", inPlace := ["internal/bytealg.abigen_runtime_cmpstring"], unfollowed := true, recurses := true, named := ["unicode/utf8.first", "unicode/utf8.acceptRanges"], plainKeys := false, apart := false, laid := [("unicode/utf8.acceptRanges", laid_unicode_utf8_acceptRanges), ("unicode/utf8.first", laid_unicode_utf8_first)] }
def SnapToldSaid : Prop := snapToldRow.holds Tryz.pinned (OpenSpec.ofChange snapToldSpec)

/-- ITS FALSE NEIGHBOUR: 'it returns false'. Refute it at one input. -/
def snapToldWrong : ChangeSpec := { name := "snapTold", fn := fun _ => fun
  | [d] => { results := [.lit (.bool false)], args := [d] }
  | _ => none }
def SnapToldWrongFalsely : Prop := snapToldRow.holds Tryz.pinned (OpenSpec.ofChange snapToldWrong)

/-- 'packhorselaw17.DeskAsks': WHATEVER THE INPUT: true; the input reads as it did. -/
def deskAsksSpec : ChangeSpec := { name := "deskAsks", fn := fun _ => fun
  | [d1, d2] => { results := [.lit (.bool true)], args := [d1, d2] }
  | _ => none }
def deskAsksRow : OpenClaim := { program := "ythpngchngnaloaagreatdoor", sum := "691e4ecc7380a052d321453f9cb091c9addb0d288201e11923162824e4d05ccc", func := "packhorse/packhorselaw17.DeskAsks", spec := "deskAsks", inPlace := ["internal/bytealg.abigen_runtime_cmpstring", "slices.overlaps[packhorse/api.Order]"], unfollowed := true, recurses := true, named := ["unicode/utf8.first", "unicode/utf8.acceptRanges"], plainKeys := false, apart := false, laid := [("unicode/utf8.acceptRanges", laid_unicode_utf8_acceptRanges), ("unicode/utf8.first", laid_unicode_utf8_first)] }
def DeskAsksSaid : Prop := deskAsksRow.holds Tryz.pinned (OpenSpec.ofChange deskAsksSpec)

/-- ITS FALSE NEIGHBOUR: 'it returns false'. Refute it at one input. -/
def deskAsksWrong : ChangeSpec := { name := "deskAsks", fn := fun _ => fun
  | [d1, d2] => { results := [.lit (.bool false)], args := [d1, d2] }
  | _ => none }
def DeskAsksWrongFalsely : Prop := deskAsksRow.holds Tryz.pinned (OpenSpec.ofChange deskAsksWrong)

/-- 'packhorselaw17.DeskNames': WHATEVER THE INPUT: true; the input reads as it did. -/
def deskNamesSpec : ChangeSpec := { name := "deskNames", fn := fun _ => fun
  | [] => { results := [.lit (.bool true)], args := [] }
  | _ => none }
def deskNamesRow : OpenClaim := { program := "ythpngchngnaloaagreatdoor", sum := "691e4ecc7380a052d321453f9cb091c9addb0d288201e11923162824e4d05ccc", func := "packhorse/packhorselaw17.DeskNames", spec := "deskNames", inPlace := ["internal/bytealg.abigen_runtime_cmpstring", "slices.overlaps[packhorse/api.Order]"], unfollowed := true, recurses := true, named := ["unicode/utf8.first", "unicode/utf8.acceptRanges"], plainKeys := false, apart := false, laid := [("unicode/utf8.acceptRanges", laid_unicode_utf8_acceptRanges), ("unicode/utf8.first", laid_unicode_utf8_first)] }
def DeskNamesSaid : Prop := deskNamesRow.holds Tryz.pinned (OpenSpec.ofChange deskNamesSpec)

/-- ITS FALSE NEIGHBOUR: 'it returns false'. Refute it at one input. -/
def deskNamesWrong : ChangeSpec := { name := "deskNames", fn := fun _ => fun
  | [] => { results := [.lit (.bool false)], args := [] }
  | _ => none }
def DeskNamesWrongFalsely : Prop := deskNamesRow.holds Tryz.pinned (OpenSpec.ofChange deskNamesWrong)

/-- 'packhorselaw17.DeskFinds': WHATEVER THE INPUT: true; the input reads as it did. -/
def deskFindsSpec : ChangeSpec := { name := "deskFinds", fn := fun _ => fun
  | [d1, d2, d3] => { results := [.lit (.bool true)], args := [d1, d2, d3] }
  | _ => none }
def deskFindsRow : OpenClaim := { program := "ythpngchngnaloaagreatdoor", sum := "691e4ecc7380a052d321453f9cb091c9addb0d288201e11923162824e4d05ccc", func := "packhorse/packhorselaw17.DeskFinds", spec := "deskFinds", inPlace := ["internal/bytealg.abigen_runtime_cmpstring", "slices.overlaps[packhorse/api.Order]"], unfollowed := true, recurses := true, named := ["unicode/utf8.first", "unicode/utf8.acceptRanges"], plainKeys := false, apart := false, laid := [("unicode/utf8.acceptRanges", laid_unicode_utf8_acceptRanges), ("unicode/utf8.first", laid_unicode_utf8_first)] }
def DeskFindsSaid : Prop := deskFindsRow.holds Tryz.pinned (OpenSpec.ofChange deskFindsSpec)

/-- ITS FALSE NEIGHBOUR: 'it returns false'. Refute it at one input. -/
def deskFindsWrong : ChangeSpec := { name := "deskFinds", fn := fun _ => fun
  | [d1, d2, d3] => { results := [.lit (.bool false)], args := [d1, d2, d3] }
  | _ => none }
def DeskFindsWrongFalsely : Prop := deskFindsRow.holds Tryz.pinned (OpenSpec.ofChange deskFindsWrong)

/-- 'packhorselaw17.DeskEnds': WHATEVER THE INPUT: true; the input reads as it did. -/
def deskEndsSpec : ChangeSpec := { name := "deskEnds", fn := fun _ => fun
  | [d] => { results := [.lit (.bool true)], args := [d] }
  | _ => none }
def deskEndsRow : OpenClaim := { program := "ythpngchngnaloaagreatdoor", sum := "691e4ecc7380a052d321453f9cb091c9addb0d288201e11923162824e4d05ccc", func := "packhorse/packhorselaw17.DeskEnds", spec := "deskEnds", inPlace := ["internal/bytealg.abigen_runtime_cmpstring", "slices.overlaps[packhorse/api.Order]"], unfollowed := true, recurses := true, named := ["unicode/utf8.first", "unicode/utf8.acceptRanges"], plainKeys := false, apart := false, laid := [("unicode/utf8.acceptRanges", laid_unicode_utf8_acceptRanges), ("unicode/utf8.first", laid_unicode_utf8_first)] }
def DeskEndsSaid : Prop := deskEndsRow.holds Tryz.pinned (OpenSpec.ofChange deskEndsSpec)

/-- ITS FALSE NEIGHBOUR: 'it returns false'. Refute it at one input. -/
def deskEndsWrong : ChangeSpec := { name := "deskEnds", fn := fun _ => fun
  | [d] => { results := [.lit (.bool false)], args := [d] }
  | _ => none }
def DeskEndsWrongFalsely : Prop := deskEndsRow.holds Tryz.pinned (OpenSpec.ofChange deskEndsWrong)

/-- 'packhorselaw17.DeskRefuses': WHATEVER THE INPUT: true; the input reads as it did. -/
def deskRefusesSpec : ChangeSpec := { name := "deskRefuses", fn := fun _ => fun
  | [d1, d2] => { results := [.lit (.bool true)], args := [d1, d2] }
  | _ => none }
def deskRefusesRow : OpenClaim := { program := "ythpngchngnaloaagreatdoor", sum := "691e4ecc7380a052d321453f9cb091c9addb0d288201e11923162824e4d05ccc", func := "packhorse/packhorselaw17.DeskRefuses", spec := "deskRefuses", inPlace := ["internal/bytealg.abigen_runtime_cmpstring", "slices.overlaps[packhorse/api.Order]"], unfollowed := true, recurses := true, named := ["unicode/utf8.first", "unicode/utf8.acceptRanges"], plainKeys := false, apart := false, laid := [("unicode/utf8.acceptRanges", laid_unicode_utf8_acceptRanges), ("unicode/utf8.first", laid_unicode_utf8_first)] }
def DeskRefusesSaid : Prop := deskRefusesRow.holds Tryz.pinned (OpenSpec.ofChange deskRefusesSpec)

/-- ITS FALSE NEIGHBOUR: 'it returns false'. Refute it at one input. -/
def deskRefusesWrong : ChangeSpec := { name := "deskRefuses", fn := fun _ => fun
  | [d1, d2] => { results := [.lit (.bool false)], args := [d1, d2] }
  | _ => none }
def DeskRefusesWrongFalsely : Prop := deskRefusesRow.holds Tryz.pinned (OpenSpec.ofChange deskRefusesWrong)

/-- 'packhorselaw17.DeskSends': WHATEVER THE INPUT: true; the input reads as it did. -/
def deskSendsSpec : ChangeSpec := { name := "deskSends", fn := fun _ => fun
  | [d] => { results := [.lit (.bool true)], args := [d] }
  | _ => none }
def deskSendsRow : OpenClaim := { program := "ythpngchngnaloaagreatdoor", sum := "691e4ecc7380a052d321453f9cb091c9addb0d288201e11923162824e4d05ccc", func := "packhorse/packhorselaw17.DeskSends", spec := "deskSends", inPlace := ["internal/bytealg.abigen_runtime_cmpstring", "slices.overlaps[packhorse/api.Order]"], unfollowed := true, recurses := true, named := ["unicode/utf8.first", "unicode/utf8.acceptRanges"], plainKeys := false, apart := false, laid := [("unicode/utf8.acceptRanges", laid_unicode_utf8_acceptRanges), ("unicode/utf8.first", laid_unicode_utf8_first)] }
def DeskSendsSaid : Prop := deskSendsRow.holds Tryz.pinned (OpenSpec.ofChange deskSendsSpec)

/-- ITS FALSE NEIGHBOUR: 'it returns false'. Refute it at one input. -/
def deskSendsWrong : ChangeSpec := { name := "deskSends", fn := fun _ => fun
  | [d] => { results := [.lit (.bool false)], args := [d] }
  | _ => none }
def DeskSendsWrongFalsely : Prop := deskSendsRow.holds Tryz.pinned (OpenSpec.ofChange deskSendsWrong)

/-- 'packhorselaw17.DeskCloses': WHATEVER THE INPUT: true; the input reads as it did. -/
def deskClosesSpec : ChangeSpec := { name := "deskCloses", fn := fun _ => fun
  | [d] => { results := [.lit (.bool true)], args := [d] }
  | _ => none }
def deskClosesRow : OpenClaim := { program := "ythpngchngnaloaagreatdoor", sum := "691e4ecc7380a052d321453f9cb091c9addb0d288201e11923162824e4d05ccc", func := "packhorse/packhorselaw17.DeskCloses", spec := "deskCloses", inPlace := ["internal/bytealg.abigen_runtime_cmpstring", "slices.overlaps[packhorse/api.Order]"], unfollowed := true, recurses := true, named := ["unicode/utf8.first", "unicode/utf8.acceptRanges"], plainKeys := false, apart := false, laid := [("unicode/utf8.acceptRanges", laid_unicode_utf8_acceptRanges), ("unicode/utf8.first", laid_unicode_utf8_first)] }
def DeskClosesSaid : Prop := deskClosesRow.holds Tryz.pinned (OpenSpec.ofChange deskClosesSpec)

/-- ITS FALSE NEIGHBOUR: 'it returns false'. Refute it at one input. -/
def deskClosesWrong : ChangeSpec := { name := "deskCloses", fn := fun _ => fun
  | [d] => { results := [.lit (.bool false)], args := [d] }
  | _ => none }
def DeskClosesWrongFalsely : Prop := deskClosesRow.holds Tryz.pinned (OpenSpec.ofChange deskClosesWrong)

/-- 'packhorselaw18.VaultNames': WHATEVER THE INPUT: true; the input reads as it did. -/
def vaultNamesSpec : ChangeSpec := { name := "vaultNames", fn := fun _ => fun
  | [] => { results := [.lit (.bool true)], args := [] }
  | _ => none }
def vaultNamesRow : OpenClaim := { program := "ythpngchngnaloaagreatdoor", sum := "691e4ecc7380a052d321453f9cb091c9addb0d288201e11923162824e4d05ccc", func := "packhorse/packhorselaw18.VaultNames", spec := "vaultNames", inPlace := ["internal/bytealg.abigen_runtime_cmpstring", "slices.overlaps[packhorse/api.Order]"], unfollowed := true, recurses := true, named := ["unicode/utf8.first", "unicode/utf8.acceptRanges"], plainKeys := false, apart := false, laid := [("unicode/utf8.acceptRanges", laid_unicode_utf8_acceptRanges), ("unicode/utf8.first", laid_unicode_utf8_first)] }
def VaultNamesSaid : Prop := vaultNamesRow.holds Tryz.pinned (OpenSpec.ofChange vaultNamesSpec)

/-- ITS FALSE NEIGHBOUR: 'it returns false'. Refute it at one input. -/
def vaultNamesWrong : ChangeSpec := { name := "vaultNames", fn := fun _ => fun
  | [] => { results := [.lit (.bool false)], args := [] }
  | _ => none }
def VaultNamesWrongFalsely : Prop := vaultNamesRow.holds Tryz.pinned (OpenSpec.ofChange vaultNamesWrong)

/-- 'packhorselaw18.VaultAgain': WHATEVER THE INPUT: true; the input reads as it did. -/
def vaultAgainSpec : ChangeSpec := { name := "vaultAgain", fn := fun _ => fun
  | [d1, d2] => { results := [.lit (.bool true)], args := [d1, d2] }
  | _ => none }
def vaultAgainRow : OpenClaim := { program := "ythpngchngnaloaagreatdoor", sum := "691e4ecc7380a052d321453f9cb091c9addb0d288201e11923162824e4d05ccc", func := "packhorse/packhorselaw18.VaultAgain", spec := "vaultAgain", inPlace := ["internal/bytealg.abigen_runtime_cmpstring", "slices.overlaps[packhorse/api.Order]"], unfollowed := true, recurses := true, named := ["unicode/utf8.first", "unicode/utf8.acceptRanges"], plainKeys := false, apart := false, laid := [("unicode/utf8.acceptRanges", laid_unicode_utf8_acceptRanges), ("unicode/utf8.first", laid_unicode_utf8_first)] }
def VaultAgainSaid : Prop := vaultAgainRow.holds Tryz.pinned (OpenSpec.ofChange vaultAgainSpec)

/-- ITS FALSE NEIGHBOUR: 'it returns false'. Refute it at one input. -/
def vaultAgainWrong : ChangeSpec := { name := "vaultAgain", fn := fun _ => fun
  | [d1, d2] => { results := [.lit (.bool false)], args := [d1, d2] }
  | _ => none }
def VaultAgainWrongFalsely : Prop := vaultAgainRow.holds Tryz.pinned (OpenSpec.ofChange vaultAgainWrong)

/- THE SECOND FORM. 'bulk': how many values and letters a reading holds, each counted each time it is reached (what is shared counts as often as it is met; a slice's spare places count too). A statement '..UptoSaid' is the law's where the arguments, and the package variables that the reading takes, are together of bulk at most 1048576: NARROWER than '..Said'. Prove '..Said' where nothing that the law and all that it calls make is longer than what came in: it says more and counts as full. Else prove '..UptoSaid'. A law counts once. -/
mutual
def uptoBulk {H : Type} : DataW H → Nat
  | .lit (.string bytes) => bytes.length + 1
  | .lit _ => 1
  | .nil => 1
  | .ptr d => uptoBulk d + 1
  | .slice elems spare => uptoBulkAll elems + uptoBulkAll spare + 1
  | .agg parts => uptoBulkAll parts + 1
  | .iface _ d => uptoBulk d + 1
  | .map entries => uptoBulkEntries entries + 1
  | .held _ => 1
def uptoBulkAll {H : Type} : List (DataW H) → Nat
  | [] => 0
  | d :: r => uptoBulk d + uptoBulkAll r
def uptoBulkEntries {H : Type} : List (Lit × DataW H) → Nat
  | [] => 0
  | x :: r => uptoBulkEntry x + uptoBulkEntries r
def uptoBulkEntry {H : Type} : Lit × DataW H → Nat
  | (.string bytes, d) => bytes.length + uptoBulk d + 1
  | (_, d) => uptoBulk d + 1
 end
def uptoSmall : (H : Type) → List (DataW H) → Bool := fun _ ds => decide (uptoBulkAll ds ≤ 1048576)
def OpenSpec.upto (s : _root_.Go.ChangeSpec) : _root_.Go.OpenSpec := { _root_.Go.OpenSpec.ofChange s with cond := some uptoSmall }

/-- 'packhorselaw16.SnapNames', WHERE WHAT IT READS IS OF BULK AT MOST 1048576: true; the input reads as it did. -/
def snapNamesUptoRow : OpenClaim := { program := "ythpngchngnaloaagreatdoor", sum := "691e4ecc7380a052d321453f9cb091c9addb0d288201e11923162824e4d05ccc", func := "packhorse/packhorselaw16.SnapNames", spec := "snapNames", inPlace := ["internal/bytealg.abigen_runtime_cmpstring"], unfollowed := true, recurses := true, named := ["unicode/utf8.first", "unicode/utf8.acceptRanges"], plainKeys := false, apart := false, laid := [("unicode/utf8.acceptRanges", laid_unicode_utf8_acceptRanges), ("unicode/utf8.first", laid_unicode_utf8_first)], narrowed := true }
def SnapNamesUptoSaid : Prop := snapNamesUptoRow.holds Tryz.pinned (OpenSpec.upto snapNamesSpec)

/-- 'packhorselaw16.SnapCommands', WHERE WHAT IT READS IS OF BULK AT MOST 1048576: true; the input reads as it did. -/
def snapCommandsUptoRow : OpenClaim := { program := "ythpngchngnaloaagreatdoor", sum := "691e4ecc7380a052d321453f9cb091c9addb0d288201e11923162824e4d05ccc", func := "packhorse/packhorselaw16.SnapCommands", spec := "snapCommands", inPlace := ["internal/bytealg.abigen_runtime_cmpstring"], unfollowed := true, recurses := true, named := ["unicode/utf8.first", "unicode/utf8.acceptRanges"], plainKeys := false, apart := false, laid := [("unicode/utf8.acceptRanges", laid_unicode_utf8_acceptRanges), ("unicode/utf8.first", laid_unicode_utf8_first)], narrowed := true }
def SnapCommandsUptoSaid : Prop := snapCommandsUptoRow.holds Tryz.pinned (OpenSpec.upto snapCommandsSpec)

/-- 'packhorselaw16.SnapTold', WHERE WHAT IT READS IS OF BULK AT MOST 1048576: true; the input reads as it did. -/
def snapToldUptoRow : OpenClaim := { program := "ythpngchngnaloaagreatdoor", sum := "691e4ecc7380a052d321453f9cb091c9addb0d288201e11923162824e4d05ccc", func := "packhorse/packhorselaw16.SnapTold", spec := "snapTold", inPlace := ["internal/bytealg.abigen_runtime_cmpstring"], unfollowed := true, recurses := true, named := ["unicode/utf8.first", "unicode/utf8.acceptRanges"], plainKeys := false, apart := false, laid := [("unicode/utf8.acceptRanges", laid_unicode_utf8_acceptRanges), ("unicode/utf8.first", laid_unicode_utf8_first)], narrowed := true }
def SnapToldUptoSaid : Prop := snapToldUptoRow.holds Tryz.pinned (OpenSpec.upto snapToldSpec)

/-- 'packhorselaw17.DeskAsks', WHERE WHAT IT READS IS OF BULK AT MOST 1048576: true; the input reads as it did. -/
def deskAsksUptoRow : OpenClaim := { program := "ythpngchngnaloaagreatdoor", sum := "691e4ecc7380a052d321453f9cb091c9addb0d288201e11923162824e4d05ccc", func := "packhorse/packhorselaw17.DeskAsks", spec := "deskAsks", inPlace := ["internal/bytealg.abigen_runtime_cmpstring", "slices.overlaps[packhorse/api.Order]"], unfollowed := true, recurses := true, named := ["unicode/utf8.first", "unicode/utf8.acceptRanges"], plainKeys := false, apart := false, laid := [("unicode/utf8.acceptRanges", laid_unicode_utf8_acceptRanges), ("unicode/utf8.first", laid_unicode_utf8_first)], narrowed := true }
def DeskAsksUptoSaid : Prop := deskAsksUptoRow.holds Tryz.pinned (OpenSpec.upto deskAsksSpec)

/-- 'packhorselaw17.DeskNames', WHERE WHAT IT READS IS OF BULK AT MOST 1048576: true; the input reads as it did. -/
def deskNamesUptoRow : OpenClaim := { program := "ythpngchngnaloaagreatdoor", sum := "691e4ecc7380a052d321453f9cb091c9addb0d288201e11923162824e4d05ccc", func := "packhorse/packhorselaw17.DeskNames", spec := "deskNames", inPlace := ["internal/bytealg.abigen_runtime_cmpstring", "slices.overlaps[packhorse/api.Order]"], unfollowed := true, recurses := true, named := ["unicode/utf8.first", "unicode/utf8.acceptRanges"], plainKeys := false, apart := false, laid := [("unicode/utf8.acceptRanges", laid_unicode_utf8_acceptRanges), ("unicode/utf8.first", laid_unicode_utf8_first)], narrowed := true }
def DeskNamesUptoSaid : Prop := deskNamesUptoRow.holds Tryz.pinned (OpenSpec.upto deskNamesSpec)

/-- 'packhorselaw17.DeskFinds', WHERE WHAT IT READS IS OF BULK AT MOST 1048576: true; the input reads as it did. -/
def deskFindsUptoRow : OpenClaim := { program := "ythpngchngnaloaagreatdoor", sum := "691e4ecc7380a052d321453f9cb091c9addb0d288201e11923162824e4d05ccc", func := "packhorse/packhorselaw17.DeskFinds", spec := "deskFinds", inPlace := ["internal/bytealg.abigen_runtime_cmpstring", "slices.overlaps[packhorse/api.Order]"], unfollowed := true, recurses := true, named := ["unicode/utf8.first", "unicode/utf8.acceptRanges"], plainKeys := false, apart := false, laid := [("unicode/utf8.acceptRanges", laid_unicode_utf8_acceptRanges), ("unicode/utf8.first", laid_unicode_utf8_first)], narrowed := true }
def DeskFindsUptoSaid : Prop := deskFindsUptoRow.holds Tryz.pinned (OpenSpec.upto deskFindsSpec)

/-- 'packhorselaw17.DeskEnds', WHERE WHAT IT READS IS OF BULK AT MOST 1048576: true; the input reads as it did. -/
def deskEndsUptoRow : OpenClaim := { program := "ythpngchngnaloaagreatdoor", sum := "691e4ecc7380a052d321453f9cb091c9addb0d288201e11923162824e4d05ccc", func := "packhorse/packhorselaw17.DeskEnds", spec := "deskEnds", inPlace := ["internal/bytealg.abigen_runtime_cmpstring", "slices.overlaps[packhorse/api.Order]"], unfollowed := true, recurses := true, named := ["unicode/utf8.first", "unicode/utf8.acceptRanges"], plainKeys := false, apart := false, laid := [("unicode/utf8.acceptRanges", laid_unicode_utf8_acceptRanges), ("unicode/utf8.first", laid_unicode_utf8_first)], narrowed := true }
def DeskEndsUptoSaid : Prop := deskEndsUptoRow.holds Tryz.pinned (OpenSpec.upto deskEndsSpec)

/-- 'packhorselaw17.DeskRefuses', WHERE WHAT IT READS IS OF BULK AT MOST 1048576: true; the input reads as it did. -/
def deskRefusesUptoRow : OpenClaim := { program := "ythpngchngnaloaagreatdoor", sum := "691e4ecc7380a052d321453f9cb091c9addb0d288201e11923162824e4d05ccc", func := "packhorse/packhorselaw17.DeskRefuses", spec := "deskRefuses", inPlace := ["internal/bytealg.abigen_runtime_cmpstring", "slices.overlaps[packhorse/api.Order]"], unfollowed := true, recurses := true, named := ["unicode/utf8.first", "unicode/utf8.acceptRanges"], plainKeys := false, apart := false, laid := [("unicode/utf8.acceptRanges", laid_unicode_utf8_acceptRanges), ("unicode/utf8.first", laid_unicode_utf8_first)], narrowed := true }
def DeskRefusesUptoSaid : Prop := deskRefusesUptoRow.holds Tryz.pinned (OpenSpec.upto deskRefusesSpec)

/-- 'packhorselaw17.DeskSends', WHERE WHAT IT READS IS OF BULK AT MOST 1048576: true; the input reads as it did. -/
def deskSendsUptoRow : OpenClaim := { program := "ythpngchngnaloaagreatdoor", sum := "691e4ecc7380a052d321453f9cb091c9addb0d288201e11923162824e4d05ccc", func := "packhorse/packhorselaw17.DeskSends", spec := "deskSends", inPlace := ["internal/bytealg.abigen_runtime_cmpstring", "slices.overlaps[packhorse/api.Order]"], unfollowed := true, recurses := true, named := ["unicode/utf8.first", "unicode/utf8.acceptRanges"], plainKeys := false, apart := false, laid := [("unicode/utf8.acceptRanges", laid_unicode_utf8_acceptRanges), ("unicode/utf8.first", laid_unicode_utf8_first)], narrowed := true }
def DeskSendsUptoSaid : Prop := deskSendsUptoRow.holds Tryz.pinned (OpenSpec.upto deskSendsSpec)

/-- 'packhorselaw17.DeskCloses', WHERE WHAT IT READS IS OF BULK AT MOST 1048576: true; the input reads as it did. -/
def deskClosesUptoRow : OpenClaim := { program := "ythpngchngnaloaagreatdoor", sum := "691e4ecc7380a052d321453f9cb091c9addb0d288201e11923162824e4d05ccc", func := "packhorse/packhorselaw17.DeskCloses", spec := "deskCloses", inPlace := ["internal/bytealg.abigen_runtime_cmpstring", "slices.overlaps[packhorse/api.Order]"], unfollowed := true, recurses := true, named := ["unicode/utf8.first", "unicode/utf8.acceptRanges"], plainKeys := false, apart := false, laid := [("unicode/utf8.acceptRanges", laid_unicode_utf8_acceptRanges), ("unicode/utf8.first", laid_unicode_utf8_first)], narrowed := true }
def DeskClosesUptoSaid : Prop := deskClosesUptoRow.holds Tryz.pinned (OpenSpec.upto deskClosesSpec)

/-- 'packhorselaw18.VaultNames', WHERE WHAT IT READS IS OF BULK AT MOST 1048576: true; the input reads as it did. -/
def vaultNamesUptoRow : OpenClaim := { program := "ythpngchngnaloaagreatdoor", sum := "691e4ecc7380a052d321453f9cb091c9addb0d288201e11923162824e4d05ccc", func := "packhorse/packhorselaw18.VaultNames", spec := "vaultNames", inPlace := ["internal/bytealg.abigen_runtime_cmpstring", "slices.overlaps[packhorse/api.Order]"], unfollowed := true, recurses := true, named := ["unicode/utf8.first", "unicode/utf8.acceptRanges"], plainKeys := false, apart := false, laid := [("unicode/utf8.acceptRanges", laid_unicode_utf8_acceptRanges), ("unicode/utf8.first", laid_unicode_utf8_first)], narrowed := true }
def VaultNamesUptoSaid : Prop := vaultNamesUptoRow.holds Tryz.pinned (OpenSpec.upto vaultNamesSpec)

/-- 'packhorselaw18.VaultAgain', WHERE WHAT IT READS IS OF BULK AT MOST 1048576: true; the input reads as it did. -/
def vaultAgainUptoRow : OpenClaim := { program := "ythpngchngnaloaagreatdoor", sum := "691e4ecc7380a052d321453f9cb091c9addb0d288201e11923162824e4d05ccc", func := "packhorse/packhorselaw18.VaultAgain", spec := "vaultAgain", inPlace := ["internal/bytealg.abigen_runtime_cmpstring", "slices.overlaps[packhorse/api.Order]"], unfollowed := true, recurses := true, named := ["unicode/utf8.first", "unicode/utf8.acceptRanges"], plainKeys := false, apart := false, laid := [("unicode/utf8.acceptRanges", laid_unicode_utf8_acceptRanges), ("unicode/utf8.first", laid_unicode_utf8_first)], narrowed := true }
def VaultAgainUptoSaid : Prop := vaultAgainUptoRow.holds Tryz.pinned (OpenSpec.upto vaultAgainSpec)

end Rows
end Go.Proofs.YthpngchngnaloaaGreatDoor
