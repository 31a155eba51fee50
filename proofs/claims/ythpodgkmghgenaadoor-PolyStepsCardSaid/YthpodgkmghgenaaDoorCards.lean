/-
  DERIVED. GIVEN WITH THE SEED: THE CARDS: each row of YthpodgkmghgenaaDoorRows.lean that lists a variable, with what it lists TIED to the program's text (the seventh form; the later family's looks); each row that meets fmt, with fmt's text TOLD by the authors' own Lean function (tested against real Go, not proved from fmt's source: count such statements apart). THE CARD IS WHAT COUNTS. Prove the row's statement (the work); the ties are given (YthpodgkmghgenaaDoorTie.lean); close each card by the builder's one call (the guide's Derived/Test/ToyasCard.lean, 'card_holds'). Laid BY PROGRAM, IN A SANDBOX (cutbox-door.mjs). By AI agents, Wed Nov 11 2026. No macro, syntax, notation, axiom, sorry.
-/
import Derived.Test.YthpodgkmghgenaaDoorRows
import GoSem.ClaimSeven
namespace Go.Proofs.YthpodgkmghgenaaDoor
namespace Rows

/-- THE TIED CARD OF 'cryptexlaw05.PolyNumbers'. -/
def polyNumbersCard : Claim7 := { stood := { row := polyNumbersRow, standIns := [], harness := (true, "2eece47a5488c64819bcbe1657ac354be11c56aa05af27bb627445c804cbb991"), looks := false }, kinds := [], alts := [], laidByText := true, laidKinds := [.data], laidTests := true, laidLooks := .later }
def PolyNumbersCardSaid : Prop := Claim7.holds Tryd.pinned (.plain (OpenSpec.ofChange polyNumbersSpec)) polyNumbersCard

/-- THE TIED CARD OF 'cryptexlaw05.PolyTags'. -/
def polyTagsCard : Claim7 := { stood := { row := polyTagsRow, standIns := [], harness := (true, "2eece47a5488c64819bcbe1657ac354be11c56aa05af27bb627445c804cbb991"), looks := false }, kinds := [], alts := [], laidByText := true, laidKinds := [.data], laidTests := true, laidLooks := .later }
def PolyTagsCardSaid : Prop := Claim7.holds Tryd.pinned (.plain (OpenSpec.ofChange polyTagsSpec)) polyTagsCard

/-- THE TIED CARD OF 'cryptexlaw05.PolyOrders'. -/
def polyOrdersCard : Claim7 := { stood := { row := polyOrdersRow, standIns := [], harness := (true, "2eece47a5488c64819bcbe1657ac354be11c56aa05af27bb627445c804cbb991"), looks := false }, kinds := [], alts := [], laidByText := true, laidKinds := [.data], laidTests := true, laidLooks := .later }
def PolyOrdersCardSaid : Prop := Claim7.holds Tryd.pinned (.plain (OpenSpec.ofChange polyOrdersSpec)) polyOrdersCard

/-- THE TIED CARD OF 'cryptexlaw05.PolyMoves'. -/
def polyMovesCard : Claim7 := { stood := { row := polyMovesRow, standIns := [], harness := (true, "2eece47a5488c64819bcbe1657ac354be11c56aa05af27bb627445c804cbb991"), looks := false }, kinds := [], alts := [], laidByText := true, laidKinds := [.data], laidTests := true, laidLooks := .later }
def PolyMovesCardSaid : Prop := Claim7.holds Tryd.pinned (.plain (OpenSpec.ofChange polyMovesSpec)) polyMovesCard

/-- THE TIED CARD OF 'cryptexlaw05.PolyClamps'. -/
def polyClampsCard : Claim7 := { stood := { row := polyClampsRow, standIns := [], harness := (true, "2eece47a5488c64819bcbe1657ac354be11c56aa05af27bb627445c804cbb991"), looks := false }, kinds := [], alts := [], laidByText := true, laidKinds := [.data], laidTests := true, laidLooks := .later }
def PolyClampsCardSaid : Prop := Claim7.holds Tryd.pinned (.plain (OpenSpec.ofChange polyClampsSpec)) polyClampsCard

/-- THE TIED CARD OF 'cryptexlaw05.PolySteps'. -/
def polyStepsCard : Claim7 := { stood := { row := polyStepsRow, standIns := [], harness := (true, "2eece47a5488c64819bcbe1657ac354be11c56aa05af27bb627445c804cbb991"), looks := false }, kinds := [], alts := [], laidByText := true, laidKinds := [.data], laidTests := true, laidLooks := .later }
def PolyStepsCardSaid : Prop := Claim7.holds Tryd.pinned (.plain (OpenSpec.ofChange polyStepsSpec)) polyStepsCard

/-- THE SECOND FORM's CARD OF 'cryptexlaw05.PolyNumbers'. -/
def polyNumbersUptoCard : Claim7 := { stood := { row := polyNumbersUptoRow, standIns := [], harness := (true, "2eece47a5488c64819bcbe1657ac354be11c56aa05af27bb627445c804cbb991"), looks := false }, kinds := [], alts := [], laidByText := true, laidKinds := [.data], laidTests := true, laidLooks := .later }
def PolyNumbersUptoCardSaid : Prop := Claim7.holds Tryd.pinned (.plain (OpenSpec.upto polyNumbersSpec)) polyNumbersUptoCard

/-- THE SECOND FORM's CARD OF 'cryptexlaw05.PolyTags'. -/
def polyTagsUptoCard : Claim7 := { stood := { row := polyTagsUptoRow, standIns := [], harness := (true, "2eece47a5488c64819bcbe1657ac354be11c56aa05af27bb627445c804cbb991"), looks := false }, kinds := [], alts := [], laidByText := true, laidKinds := [.data], laidTests := true, laidLooks := .later }
def PolyTagsUptoCardSaid : Prop := Claim7.holds Tryd.pinned (.plain (OpenSpec.upto polyTagsSpec)) polyTagsUptoCard

/-- THE SECOND FORM's CARD OF 'cryptexlaw05.PolyOrders'. -/
def polyOrdersUptoCard : Claim7 := { stood := { row := polyOrdersUptoRow, standIns := [], harness := (true, "2eece47a5488c64819bcbe1657ac354be11c56aa05af27bb627445c804cbb991"), looks := false }, kinds := [], alts := [], laidByText := true, laidKinds := [.data], laidTests := true, laidLooks := .later }
def PolyOrdersUptoCardSaid : Prop := Claim7.holds Tryd.pinned (.plain (OpenSpec.upto polyOrdersSpec)) polyOrdersUptoCard

/-- THE SECOND FORM's CARD OF 'cryptexlaw05.PolyMoves'. -/
def polyMovesUptoCard : Claim7 := { stood := { row := polyMovesUptoRow, standIns := [], harness := (true, "2eece47a5488c64819bcbe1657ac354be11c56aa05af27bb627445c804cbb991"), looks := false }, kinds := [], alts := [], laidByText := true, laidKinds := [.data], laidTests := true, laidLooks := .later }
def PolyMovesUptoCardSaid : Prop := Claim7.holds Tryd.pinned (.plain (OpenSpec.upto polyMovesSpec)) polyMovesUptoCard

/-- THE SECOND FORM's CARD OF 'cryptexlaw05.PolyClamps'. -/
def polyClampsUptoCard : Claim7 := { stood := { row := polyClampsUptoRow, standIns := [], harness := (true, "2eece47a5488c64819bcbe1657ac354be11c56aa05af27bb627445c804cbb991"), looks := false }, kinds := [], alts := [], laidByText := true, laidKinds := [.data], laidTests := true, laidLooks := .later }
def PolyClampsUptoCardSaid : Prop := Claim7.holds Tryd.pinned (.plain (OpenSpec.upto polyClampsSpec)) polyClampsUptoCard

/-- THE SECOND FORM's CARD OF 'cryptexlaw05.PolySteps'. -/
def polyStepsUptoCard : Claim7 := { stood := { row := polyStepsUptoRow, standIns := [], harness := (true, "2eece47a5488c64819bcbe1657ac354be11c56aa05af27bb627445c804cbb991"), looks := false }, kinds := [], alts := [], laidByText := true, laidKinds := [.data], laidTests := true, laidLooks := .later }
def PolyStepsUptoCardSaid : Prop := Claim7.holds Tryd.pinned (.plain (OpenSpec.upto polyStepsSpec)) polyStepsUptoCard
end Rows
end Go.Proofs.YthpodgkmghgenaaDoor
