/-
  DERIVED. GIVEN WITH THE SEED: THE CARDS: each row of YtjbjcfnbgcloiaaDoorRows.lean that lists a variable, with what it lists TIED to the program's text (the seventh form; the later family's looks); each row that meets fmt, with fmt's text TOLD by the authors' own Lean function (tested against real Go, not proved from fmt's source: count such statements apart). THE CARD IS WHAT COUNTS. Prove the row's statement (the work); the ties are given (YtjbjcfnbgcloiaaDoorTie.lean); close each card by the builder's one call (the guide's Derived/Test/ToyasCard.lean, 'card_holds'). Laid BY PROGRAM, IN A SANDBOX (cutbox-door.mjs). By AI agents, Wed Nov 11 2026. No macro, syntax, notation, axiom, sorry.
-/
import Derived.Test.YtjbjcfnbgcloiaaDoorRows
import GoSem.ClaimSeven
namespace Go.Proofs.YtjbjcfnbgcloiaaDoor
namespace Rows

/-- THE TIED CARD OF 'strongboxlaw22.ModelLists'. -/
def modelListsCard : Claim7 := { stood := { row := modelListsRow, standIns := [], harness := (true, "51a4d7baaf9e82dd591e5f6ffaa9c2cd73041816b7618b42929be77f4d7b39fd"), looks := true }, kinds := [], alts := [], laidByText := true, laidKinds := [.data, .pinned], laidTests := true, laidLooks := .later }
def ModelListsCardSaid : Prop := Claim7.holds Tryd.pinned (.plain (OpenSpec.ofChange modelListsSpec)) modelListsCard

/-- THE TIED CARD OF 'strongboxlaw22.ModelOrder'. -/
def modelOrderCard : Claim7 := { stood := { row := modelOrderRow, standIns := [], harness := (true, "51a4d7baaf9e82dd591e5f6ffaa9c2cd73041816b7618b42929be77f4d7b39fd"), looks := true }, kinds := [], alts := [], laidByText := true, laidKinds := [.data, .pinned], laidTests := true, laidLooks := .later }
def ModelOrderCardSaid : Prop := Claim7.holds Tryd.pinned (.plain (OpenSpec.ofChange modelOrderSpec)) modelOrderCard

/-- THE TIED CARD OF 'strongboxlaw22.ModelCopies'. -/
def modelCopiesCard : Claim7 := { stood := { row := modelCopiesRow, standIns := [], harness := (true, "51a4d7baaf9e82dd591e5f6ffaa9c2cd73041816b7618b42929be77f4d7b39fd"), looks := true }, kinds := [], alts := [], laidByText := true, laidKinds := [.data, .pinned], laidTests := true, laidLooks := .later }
def ModelCopiesCardSaid : Prop := Claim7.holds Tryd.pinned (.plain (OpenSpec.ofChange modelCopiesSpec)) modelCopiesCard

/-- THE SECOND FORM's CARD OF 'strongboxlaw22.ModelLists'. -/
def modelListsUptoCard : Claim7 := { stood := { row := modelListsUptoRow, standIns := [], harness := (true, "51a4d7baaf9e82dd591e5f6ffaa9c2cd73041816b7618b42929be77f4d7b39fd"), looks := true }, kinds := [], alts := [], laidByText := true, laidKinds := [.data, .pinned], laidTests := true, laidLooks := .later }
def ModelListsUptoCardSaid : Prop := Claim7.holds Tryd.pinned (.plain (OpenSpec.upto modelListsSpec)) modelListsUptoCard

/-- THE SECOND FORM's CARD OF 'strongboxlaw22.ModelOrder'. -/
def modelOrderUptoCard : Claim7 := { stood := { row := modelOrderUptoRow, standIns := [], harness := (true, "51a4d7baaf9e82dd591e5f6ffaa9c2cd73041816b7618b42929be77f4d7b39fd"), looks := true }, kinds := [], alts := [], laidByText := true, laidKinds := [.data, .pinned], laidTests := true, laidLooks := .later }
def ModelOrderUptoCardSaid : Prop := Claim7.holds Tryd.pinned (.plain (OpenSpec.upto modelOrderSpec)) modelOrderUptoCard

/-- THE SECOND FORM's CARD OF 'strongboxlaw22.ModelCopies'. -/
def modelCopiesUptoCard : Claim7 := { stood := { row := modelCopiesUptoRow, standIns := [], harness := (true, "51a4d7baaf9e82dd591e5f6ffaa9c2cd73041816b7618b42929be77f4d7b39fd"), looks := true }, kinds := [], alts := [], laidByText := true, laidKinds := [.data, .pinned], laidTests := true, laidLooks := .later }
def ModelCopiesUptoCardSaid : Prop := Claim7.holds Tryd.pinned (.plain (OpenSpec.upto modelCopiesSpec)) modelCopiesUptoCard
end Rows
end Go.Proofs.YtjbjcfnbgcloiaaDoor
