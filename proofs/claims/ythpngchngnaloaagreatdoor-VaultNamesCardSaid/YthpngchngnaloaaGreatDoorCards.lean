/-
  DERIVED. GIVEN WITH THE SEED: THE CARDS: each row of YthpngchngnaloaaGreatDoorRows.lean that lists a variable, with what it lists TIED to the program's text (the seventh form; the later family's looks); each row that meets fmt, with fmt's text TOLD by the authors' own Lean function (tested against real Go, not proved from fmt's source: count such statements apart). THE CARD IS WHAT COUNTS. Prove the row's statement (the work); the ties are given (YthpngchngnaloaaGreatDoorTie.lean); close each card by the builder's one call (the guide's Derived/Test/ToyasCard.lean, 'card_holds'). Laid BY PROGRAM, IN A SANDBOX (cutbox-door.mjs). By AI agents, Wed Nov 11 2026. No macro, syntax, notation, axiom, sorry.
-/
import Derived.Test.YthpngchngnaloaaGreatDoorRows
import GoSem.ClaimSeven
namespace Go.Proofs.YthpngchngnaloaaGreatDoor
namespace Rows

/-- THE TIED CARD OF 'packhorselaw16.SnapNames'. -/
def snapNamesCard : Claim7 := { stood := { row := snapNamesRow, standIns := [], harness := (true, "4a0975f38cf46045cc5543fcf99bb82fdc4f47197db3d08d503efa604bc90c1e"), looks := false }, kinds := [], alts := [], laidByText := true, laidKinds := [.data, .pinned], laidTests := true, laidLooks := .later }
def SnapNamesCardSaid : Prop := Claim7.holds Tryz.pinned (.plain (OpenSpec.ofChange snapNamesSpec)) snapNamesCard

/-- THE TIED CARD OF 'packhorselaw16.SnapCommands'. -/
def snapCommandsCard : Claim7 := { stood := { row := snapCommandsRow, standIns := [], harness := (true, "4a0975f38cf46045cc5543fcf99bb82fdc4f47197db3d08d503efa604bc90c1e"), looks := false }, kinds := [], alts := [], laidByText := true, laidKinds := [.data, .pinned], laidTests := true, laidLooks := .later }
def SnapCommandsCardSaid : Prop := Claim7.holds Tryz.pinned (.plain (OpenSpec.ofChange snapCommandsSpec)) snapCommandsCard

/-- THE TIED CARD OF 'packhorselaw16.SnapTold'. -/
def snapToldCard : Claim7 := { stood := { row := snapToldRow, standIns := [], harness := (true, "4a0975f38cf46045cc5543fcf99bb82fdc4f47197db3d08d503efa604bc90c1e"), looks := false }, kinds := [], alts := [], laidByText := true, laidKinds := [.data, .pinned], laidTests := true, laidLooks := .later }
def SnapToldCardSaid : Prop := Claim7.holds Tryz.pinned (.plain (OpenSpec.ofChange snapToldSpec)) snapToldCard

/-- THE TIED CARD OF 'packhorselaw17.DeskAsks'. -/
def deskAsksCard : Claim7 := { stood := { row := deskAsksRow, standIns := [], harness := (true, "4a0975f38cf46045cc5543fcf99bb82fdc4f47197db3d08d503efa604bc90c1e"), looks := false }, kinds := [], alts := [], laidByText := true, laidKinds := [.data, .pinned], laidTests := true, laidLooks := .later }
def DeskAsksCardSaid : Prop := Claim7.holds Tryz.pinned (.plain (OpenSpec.ofChange deskAsksSpec)) deskAsksCard

/-- THE TIED CARD OF 'packhorselaw17.DeskNames'. -/
def deskNamesCard : Claim7 := { stood := { row := deskNamesRow, standIns := [], harness := (true, "4a0975f38cf46045cc5543fcf99bb82fdc4f47197db3d08d503efa604bc90c1e"), looks := false }, kinds := [], alts := [], laidByText := true, laidKinds := [.data, .pinned], laidTests := true, laidLooks := .later }
def DeskNamesCardSaid : Prop := Claim7.holds Tryz.pinned (.plain (OpenSpec.ofChange deskNamesSpec)) deskNamesCard

/-- THE TIED CARD OF 'packhorselaw17.DeskFinds'. -/
def deskFindsCard : Claim7 := { stood := { row := deskFindsRow, standIns := [], harness := (true, "4a0975f38cf46045cc5543fcf99bb82fdc4f47197db3d08d503efa604bc90c1e"), looks := false }, kinds := [], alts := [], laidByText := true, laidKinds := [.data, .pinned], laidTests := true, laidLooks := .later }
def DeskFindsCardSaid : Prop := Claim7.holds Tryz.pinned (.plain (OpenSpec.ofChange deskFindsSpec)) deskFindsCard

/-- THE TIED CARD OF 'packhorselaw17.DeskEnds'. -/
def deskEndsCard : Claim7 := { stood := { row := deskEndsRow, standIns := [], harness := (true, "4a0975f38cf46045cc5543fcf99bb82fdc4f47197db3d08d503efa604bc90c1e"), looks := false }, kinds := [], alts := [], laidByText := true, laidKinds := [.data, .pinned], laidTests := true, laidLooks := .later }
def DeskEndsCardSaid : Prop := Claim7.holds Tryz.pinned (.plain (OpenSpec.ofChange deskEndsSpec)) deskEndsCard

/-- THE TIED CARD OF 'packhorselaw17.DeskRefuses'. -/
def deskRefusesCard : Claim7 := { stood := { row := deskRefusesRow, standIns := [], harness := (true, "4a0975f38cf46045cc5543fcf99bb82fdc4f47197db3d08d503efa604bc90c1e"), looks := false }, kinds := [], alts := [], laidByText := true, laidKinds := [.data, .pinned], laidTests := true, laidLooks := .later }
def DeskRefusesCardSaid : Prop := Claim7.holds Tryz.pinned (.plain (OpenSpec.ofChange deskRefusesSpec)) deskRefusesCard

/-- THE TIED CARD OF 'packhorselaw17.DeskSends'. -/
def deskSendsCard : Claim7 := { stood := { row := deskSendsRow, standIns := [], harness := (true, "4a0975f38cf46045cc5543fcf99bb82fdc4f47197db3d08d503efa604bc90c1e"), looks := false }, kinds := [], alts := [], laidByText := true, laidKinds := [.data, .pinned], laidTests := true, laidLooks := .later }
def DeskSendsCardSaid : Prop := Claim7.holds Tryz.pinned (.plain (OpenSpec.ofChange deskSendsSpec)) deskSendsCard

/-- THE TIED CARD OF 'packhorselaw17.DeskCloses'. -/
def deskClosesCard : Claim7 := { stood := { row := deskClosesRow, standIns := [], harness := (true, "4a0975f38cf46045cc5543fcf99bb82fdc4f47197db3d08d503efa604bc90c1e"), looks := false }, kinds := [], alts := [], laidByText := true, laidKinds := [.data, .pinned], laidTests := true, laidLooks := .later }
def DeskClosesCardSaid : Prop := Claim7.holds Tryz.pinned (.plain (OpenSpec.ofChange deskClosesSpec)) deskClosesCard

/-- THE TIED CARD OF 'packhorselaw18.VaultNames'. -/
def vaultNamesCard : Claim7 := { stood := { row := vaultNamesRow, standIns := [], harness := (true, "4a0975f38cf46045cc5543fcf99bb82fdc4f47197db3d08d503efa604bc90c1e"), looks := false }, kinds := [], alts := [], laidByText := true, laidKinds := [.data, .pinned], laidTests := true, laidLooks := .later }
def VaultNamesCardSaid : Prop := Claim7.holds Tryz.pinned (.plain (OpenSpec.ofChange vaultNamesSpec)) vaultNamesCard

/-- THE TIED CARD OF 'packhorselaw18.VaultAgain'. -/
def vaultAgainCard : Claim7 := { stood := { row := vaultAgainRow, standIns := [], harness := (true, "4a0975f38cf46045cc5543fcf99bb82fdc4f47197db3d08d503efa604bc90c1e"), looks := false }, kinds := [], alts := [], laidByText := true, laidKinds := [.data, .pinned], laidTests := true, laidLooks := .later }
def VaultAgainCardSaid : Prop := Claim7.holds Tryz.pinned (.plain (OpenSpec.ofChange vaultAgainSpec)) vaultAgainCard

/-- THE SECOND FORM's CARD OF 'packhorselaw16.SnapNames'. -/
def snapNamesUptoCard : Claim7 := { stood := { row := snapNamesUptoRow, standIns := [], harness := (true, "4a0975f38cf46045cc5543fcf99bb82fdc4f47197db3d08d503efa604bc90c1e"), looks := false }, kinds := [], alts := [], laidByText := true, laidKinds := [.data, .pinned], laidTests := true, laidLooks := .later }
def SnapNamesUptoCardSaid : Prop := Claim7.holds Tryz.pinned (.plain (OpenSpec.upto snapNamesSpec)) snapNamesUptoCard

/-- THE SECOND FORM's CARD OF 'packhorselaw16.SnapCommands'. -/
def snapCommandsUptoCard : Claim7 := { stood := { row := snapCommandsUptoRow, standIns := [], harness := (true, "4a0975f38cf46045cc5543fcf99bb82fdc4f47197db3d08d503efa604bc90c1e"), looks := false }, kinds := [], alts := [], laidByText := true, laidKinds := [.data, .pinned], laidTests := true, laidLooks := .later }
def SnapCommandsUptoCardSaid : Prop := Claim7.holds Tryz.pinned (.plain (OpenSpec.upto snapCommandsSpec)) snapCommandsUptoCard

/-- THE SECOND FORM's CARD OF 'packhorselaw16.SnapTold'. -/
def snapToldUptoCard : Claim7 := { stood := { row := snapToldUptoRow, standIns := [], harness := (true, "4a0975f38cf46045cc5543fcf99bb82fdc4f47197db3d08d503efa604bc90c1e"), looks := false }, kinds := [], alts := [], laidByText := true, laidKinds := [.data, .pinned], laidTests := true, laidLooks := .later }
def SnapToldUptoCardSaid : Prop := Claim7.holds Tryz.pinned (.plain (OpenSpec.upto snapToldSpec)) snapToldUptoCard

/-- THE SECOND FORM's CARD OF 'packhorselaw17.DeskAsks'. -/
def deskAsksUptoCard : Claim7 := { stood := { row := deskAsksUptoRow, standIns := [], harness := (true, "4a0975f38cf46045cc5543fcf99bb82fdc4f47197db3d08d503efa604bc90c1e"), looks := false }, kinds := [], alts := [], laidByText := true, laidKinds := [.data, .pinned], laidTests := true, laidLooks := .later }
def DeskAsksUptoCardSaid : Prop := Claim7.holds Tryz.pinned (.plain (OpenSpec.upto deskAsksSpec)) deskAsksUptoCard

/-- THE SECOND FORM's CARD OF 'packhorselaw17.DeskNames'. -/
def deskNamesUptoCard : Claim7 := { stood := { row := deskNamesUptoRow, standIns := [], harness := (true, "4a0975f38cf46045cc5543fcf99bb82fdc4f47197db3d08d503efa604bc90c1e"), looks := false }, kinds := [], alts := [], laidByText := true, laidKinds := [.data, .pinned], laidTests := true, laidLooks := .later }
def DeskNamesUptoCardSaid : Prop := Claim7.holds Tryz.pinned (.plain (OpenSpec.upto deskNamesSpec)) deskNamesUptoCard

/-- THE SECOND FORM's CARD OF 'packhorselaw17.DeskFinds'. -/
def deskFindsUptoCard : Claim7 := { stood := { row := deskFindsUptoRow, standIns := [], harness := (true, "4a0975f38cf46045cc5543fcf99bb82fdc4f47197db3d08d503efa604bc90c1e"), looks := false }, kinds := [], alts := [], laidByText := true, laidKinds := [.data, .pinned], laidTests := true, laidLooks := .later }
def DeskFindsUptoCardSaid : Prop := Claim7.holds Tryz.pinned (.plain (OpenSpec.upto deskFindsSpec)) deskFindsUptoCard

/-- THE SECOND FORM's CARD OF 'packhorselaw17.DeskEnds'. -/
def deskEndsUptoCard : Claim7 := { stood := { row := deskEndsUptoRow, standIns := [], harness := (true, "4a0975f38cf46045cc5543fcf99bb82fdc4f47197db3d08d503efa604bc90c1e"), looks := false }, kinds := [], alts := [], laidByText := true, laidKinds := [.data, .pinned], laidTests := true, laidLooks := .later }
def DeskEndsUptoCardSaid : Prop := Claim7.holds Tryz.pinned (.plain (OpenSpec.upto deskEndsSpec)) deskEndsUptoCard

/-- THE SECOND FORM's CARD OF 'packhorselaw17.DeskRefuses'. -/
def deskRefusesUptoCard : Claim7 := { stood := { row := deskRefusesUptoRow, standIns := [], harness := (true, "4a0975f38cf46045cc5543fcf99bb82fdc4f47197db3d08d503efa604bc90c1e"), looks := false }, kinds := [], alts := [], laidByText := true, laidKinds := [.data, .pinned], laidTests := true, laidLooks := .later }
def DeskRefusesUptoCardSaid : Prop := Claim7.holds Tryz.pinned (.plain (OpenSpec.upto deskRefusesSpec)) deskRefusesUptoCard

/-- THE SECOND FORM's CARD OF 'packhorselaw17.DeskSends'. -/
def deskSendsUptoCard : Claim7 := { stood := { row := deskSendsUptoRow, standIns := [], harness := (true, "4a0975f38cf46045cc5543fcf99bb82fdc4f47197db3d08d503efa604bc90c1e"), looks := false }, kinds := [], alts := [], laidByText := true, laidKinds := [.data, .pinned], laidTests := true, laidLooks := .later }
def DeskSendsUptoCardSaid : Prop := Claim7.holds Tryz.pinned (.plain (OpenSpec.upto deskSendsSpec)) deskSendsUptoCard

/-- THE SECOND FORM's CARD OF 'packhorselaw17.DeskCloses'. -/
def deskClosesUptoCard : Claim7 := { stood := { row := deskClosesUptoRow, standIns := [], harness := (true, "4a0975f38cf46045cc5543fcf99bb82fdc4f47197db3d08d503efa604bc90c1e"), looks := false }, kinds := [], alts := [], laidByText := true, laidKinds := [.data, .pinned], laidTests := true, laidLooks := .later }
def DeskClosesUptoCardSaid : Prop := Claim7.holds Tryz.pinned (.plain (OpenSpec.upto deskClosesSpec)) deskClosesUptoCard

/-- THE SECOND FORM's CARD OF 'packhorselaw18.VaultNames'. -/
def vaultNamesUptoCard : Claim7 := { stood := { row := vaultNamesUptoRow, standIns := [], harness := (true, "4a0975f38cf46045cc5543fcf99bb82fdc4f47197db3d08d503efa604bc90c1e"), looks := false }, kinds := [], alts := [], laidByText := true, laidKinds := [.data, .pinned], laidTests := true, laidLooks := .later }
def VaultNamesUptoCardSaid : Prop := Claim7.holds Tryz.pinned (.plain (OpenSpec.upto vaultNamesSpec)) vaultNamesUptoCard

/-- THE SECOND FORM's CARD OF 'packhorselaw18.VaultAgain'. -/
def vaultAgainUptoCard : Claim7 := { stood := { row := vaultAgainUptoRow, standIns := [], harness := (true, "4a0975f38cf46045cc5543fcf99bb82fdc4f47197db3d08d503efa604bc90c1e"), looks := false }, kinds := [], alts := [], laidByText := true, laidKinds := [.data, .pinned], laidTests := true, laidLooks := .later }
def VaultAgainUptoCardSaid : Prop := Claim7.holds Tryz.pinned (.plain (OpenSpec.upto vaultAgainSpec)) vaultAgainUptoCard
end Rows
end Go.Proofs.YthpngchngnaloaaGreatDoor
