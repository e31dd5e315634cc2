/-
  DERIVED. GIVEN WITH THE SEED: THE CARDS: each row of YtdegjlpcbnmhgaaDoorRows.lean that lists a variable, with what it lists TIED to the program's text (the seventh form; the later family's looks); each row that meets fmt, with fmt's text TOLD by the authors' own Lean function (tested against real Go, not proved from fmt's source: count such statements apart). THE CARD IS WHAT COUNTS. Prove the row's statement (the work); the ties are given (YtdegjlpcbnmhgaaDoorTie.lean); close each card by the builder's one call (the guide's Derived/Test/ToyasCard.lean, 'card_holds'). Laid BY PROGRAM, IN A SANDBOX (cutbox-door.mjs). By AI agents, Wed Nov 11 2026. No macro, syntax, notation, axiom, sorry.
-/
import Derived.Test.YtdegjlpcbnmhgaaDoorRows
import GoSem.ClaimSeven
namespace Go.Proofs.YtdegjlpcbnmhgaaDoor
namespace Rows

/-- THE TIED CARD OF 'strongboxlaw6.NameJoins'. -/
def nameJoinsCard : Claim7 := { stood := { row := nameJoinsRow, standIns := [], harness := (true, "27fd30640b55fca337b4abc18cee551734e11fbc341bdaad0c5f72df0b37a93c"), looks := false }, kinds := [], alts := [], laidByText := true, laidKinds := [.data, .pinned], laidTests := true, laidLooks := .later }
def NameJoinsCardSaid : Prop := Claim7.holds Tryd.pinned (.plain (OpenSpec.ofChange nameJoinsSpec)) nameJoinsCard

/-- THE TIED CARD OF 'strongboxlaw6.NameOrder'. -/
def nameOrderCard : Claim7 := { stood := { row := nameOrderRow, standIns := [], harness := (true, "27fd30640b55fca337b4abc18cee551734e11fbc341bdaad0c5f72df0b37a93c"), looks := false }, kinds := [], alts := [], laidByText := true, laidKinds := [.data, .pinned], laidTests := true, laidLooks := .later }
def NameOrderCardSaid : Prop := Claim7.holds Tryd.pinned (.plain (OpenSpec.ofChange nameOrderSpec)) nameOrderCard

/-- THE TIED CARD OF 'strongboxlaw6.NameNexts'. -/
def nameNextsCard : Claim7 := { stood := { row := nameNextsRow, standIns := [], harness := (true, "27fd30640b55fca337b4abc18cee551734e11fbc341bdaad0c5f72df0b37a93c"), looks := false }, kinds := [], alts := [], laidByText := true, laidKinds := [.data, .pinned], laidTests := true, laidLooks := .later }
def NameNextsCardSaid : Prop := Claim7.holds Tryd.pinned (.plain (OpenSpec.ofChange nameNextsSpec)) nameNextsCard

/-- THE TIED CARD OF 'strongboxlaw6.NameKnown'. -/
def nameKnownCard : Claim7 := { stood := { row := nameKnownRow, standIns := [], harness := (true, "27fd30640b55fca337b4abc18cee551734e11fbc341bdaad0c5f72df0b37a93c"), looks := false }, kinds := [], alts := [], laidByText := true, laidKinds := [.data, .pinned], laidTests := true, laidLooks := .later }
def NameKnownCardSaid : Prop := Claim7.holds Tryd.pinned (.plain (OpenSpec.ofChange nameKnownSpec)) nameKnownCard

/-- THE TIED CARD OF 'strongboxlaw6.NameLooks'. -/
def nameLooksCard : Claim7 := { stood := { row := nameLooksRow, standIns := [], harness := (true, "27fd30640b55fca337b4abc18cee551734e11fbc341bdaad0c5f72df0b37a93c"), looks := false }, kinds := [], alts := [], laidByText := true, laidKinds := [.data, .pinned], laidTests := true, laidLooks := .later }
def NameLooksCardSaid : Prop := Claim7.holds Tryd.pinned (.plain (OpenSpec.ofChange nameLooksSpec)) nameLooksCard

/-- THE TIED CARD OF 'strongboxlaw6.NamePaths'. -/
def namePathsCard : Claim7 := { stood := { row := namePathsRow, standIns := [], harness := (true, "27fd30640b55fca337b4abc18cee551734e11fbc341bdaad0c5f72df0b37a93c"), looks := false }, kinds := [], alts := [], laidByText := true, laidKinds := [.data, .pinned], laidTests := true, laidLooks := .later }
def NamePathsCardSaid : Prop := Claim7.holds Tryd.pinned (.plain (OpenSpec.ofChange namePathsSpec)) namePathsCard

/-- THE SECOND FORM's CARD OF 'strongboxlaw6.NameJoins'. -/
def nameJoinsUptoCard : Claim7 := { stood := { row := nameJoinsUptoRow, standIns := [], harness := (true, "27fd30640b55fca337b4abc18cee551734e11fbc341bdaad0c5f72df0b37a93c"), looks := false }, kinds := [], alts := [], laidByText := true, laidKinds := [.data, .pinned], laidTests := true, laidLooks := .later }
def NameJoinsUptoCardSaid : Prop := Claim7.holds Tryd.pinned (.plain (OpenSpec.upto nameJoinsSpec)) nameJoinsUptoCard

/-- THE SECOND FORM's CARD OF 'strongboxlaw6.NameOrder'. -/
def nameOrderUptoCard : Claim7 := { stood := { row := nameOrderUptoRow, standIns := [], harness := (true, "27fd30640b55fca337b4abc18cee551734e11fbc341bdaad0c5f72df0b37a93c"), looks := false }, kinds := [], alts := [], laidByText := true, laidKinds := [.data, .pinned], laidTests := true, laidLooks := .later }
def NameOrderUptoCardSaid : Prop := Claim7.holds Tryd.pinned (.plain (OpenSpec.upto nameOrderSpec)) nameOrderUptoCard

/-- THE SECOND FORM's CARD OF 'strongboxlaw6.NameNexts'. -/
def nameNextsUptoCard : Claim7 := { stood := { row := nameNextsUptoRow, standIns := [], harness := (true, "27fd30640b55fca337b4abc18cee551734e11fbc341bdaad0c5f72df0b37a93c"), looks := false }, kinds := [], alts := [], laidByText := true, laidKinds := [.data, .pinned], laidTests := true, laidLooks := .later }
def NameNextsUptoCardSaid : Prop := Claim7.holds Tryd.pinned (.plain (OpenSpec.upto nameNextsSpec)) nameNextsUptoCard

/-- THE SECOND FORM's CARD OF 'strongboxlaw6.NameKnown'. -/
def nameKnownUptoCard : Claim7 := { stood := { row := nameKnownUptoRow, standIns := [], harness := (true, "27fd30640b55fca337b4abc18cee551734e11fbc341bdaad0c5f72df0b37a93c"), looks := false }, kinds := [], alts := [], laidByText := true, laidKinds := [.data, .pinned], laidTests := true, laidLooks := .later }
def NameKnownUptoCardSaid : Prop := Claim7.holds Tryd.pinned (.plain (OpenSpec.upto nameKnownSpec)) nameKnownUptoCard

/-- THE SECOND FORM's CARD OF 'strongboxlaw6.NameLooks'. -/
def nameLooksUptoCard : Claim7 := { stood := { row := nameLooksUptoRow, standIns := [], harness := (true, "27fd30640b55fca337b4abc18cee551734e11fbc341bdaad0c5f72df0b37a93c"), looks := false }, kinds := [], alts := [], laidByText := true, laidKinds := [.data, .pinned], laidTests := true, laidLooks := .later }
def NameLooksUptoCardSaid : Prop := Claim7.holds Tryd.pinned (.plain (OpenSpec.upto nameLooksSpec)) nameLooksUptoCard

/-- THE SECOND FORM's CARD OF 'strongboxlaw6.NamePaths'. -/
def namePathsUptoCard : Claim7 := { stood := { row := namePathsUptoRow, standIns := [], harness := (true, "27fd30640b55fca337b4abc18cee551734e11fbc341bdaad0c5f72df0b37a93c"), looks := false }, kinds := [], alts := [], laidByText := true, laidKinds := [.data, .pinned], laidTests := true, laidLooks := .later }
def NamePathsUptoCardSaid : Prop := Claim7.holds Tryd.pinned (.plain (OpenSpec.upto namePathsSpec)) namePathsUptoCard
end Rows
end Go.Proofs.YtdegjlpcbnmhgaaDoor
