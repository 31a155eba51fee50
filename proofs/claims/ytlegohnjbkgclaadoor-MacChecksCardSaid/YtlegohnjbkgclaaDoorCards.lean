/-
  DERIVED. GIVEN WITH THE SEED: THE CARDS: each row of YtlegohnjbkgclaaDoorRows.lean that lists a variable, with what it lists TIED to the program's text (the seventh form; the later family's looks); each row that meets fmt, with fmt's text TOLD by the authors' own Lean function (tested against real Go, not proved from fmt's source: count such statements apart). THE CARD IS WHAT COUNTS. Prove the row's statement (the work); the ties are given (YtlegohnjbkgclaaDoorTie.lean); close each card by the builder's one call (the guide's Derived/Test/ToyasCard.lean, 'card_holds'). Laid BY PROGRAM, IN A SANDBOX (cutbox-door.mjs). By AI agents, Wed Nov 11 2026. No macro, syntax, notation, axiom, sorry.
-/
import Derived.Test.YtlegohnjbkgclaaDoorRows
import GoSem.ClaimSeven
namespace Go.Proofs.YtlegohnjbkgclaaDoor
namespace Rows

/-- THE TIED CARD OF 'cryptexlaw02.ShaSums'. -/
def shaSumsCard : Claim7 := { stood := { row := shaSumsRow, standIns := [], harness := (true, "fc01a405b65bdbe8f204f32992df092aa4f7de9b63256ea0b8b1a1ac54589220"), looks := false }, kinds := [], alts := [], laidByText := true, laidKinds := [.data, .data], laidTests := true, laidLooks := .later }
def ShaSumsCardSaid : Prop := Claim7.holds Tryd.pinned (.plain (OpenSpec.ofChange shaSumsSpec)) shaSumsCard

/-- THE TIED CARD OF 'cryptexlaw02.ShaParts'. -/
def shaPartsCard : Claim7 := { stood := { row := shaPartsRow, standIns := [], harness := (true, "fc01a405b65bdbe8f204f32992df092aa4f7de9b63256ea0b8b1a1ac54589220"), looks := false }, kinds := [], alts := [], laidByText := true, laidKinds := [.data, .data], laidTests := true, laidLooks := .later }
def ShaPartsCardSaid : Prop := Claim7.holds Tryd.pinned (.plain (OpenSpec.ofChange shaPartsSpec)) shaPartsCard

/-- THE TIED CARD OF 'cryptexlaw02.ShaClones'. -/
def shaClonesCard : Claim7 := { stood := { row := shaClonesRow, standIns := [], harness := (true, "fc01a405b65bdbe8f204f32992df092aa4f7de9b63256ea0b8b1a1ac54589220"), looks := false }, kinds := [], alts := [], laidByText := true, laidKinds := [.data, .data], laidTests := true, laidLooks := .later }
def ShaClonesCardSaid : Prop := Claim7.holds Tryd.pinned (.plain (OpenSpec.ofChange shaClonesSpec)) shaClonesCard

/-- THE TIED CARD OF 'cryptexlaw02.ShaPads'. -/
def shaPadsCard : Claim7 := { stood := { row := shaPadsRow, standIns := [], harness := (true, "fc01a405b65bdbe8f204f32992df092aa4f7de9b63256ea0b8b1a1ac54589220"), looks := false }, kinds := [], alts := [], laidByText := true, laidKinds := [.data, .data], laidTests := true, laidLooks := .later }
def ShaPadsCardSaid : Prop := Claim7.holds Tryd.pinned (.plain (OpenSpec.ofChange shaPadsSpec)) shaPadsCard

/-- THE TIED CARD OF 'cryptexlaw02.ShaHexes'. -/
def shaHexesCard : Claim7 := { stood := { row := shaHexesRow, standIns := [], harness := (true, "fc01a405b65bdbe8f204f32992df092aa4f7de9b63256ea0b8b1a1ac54589220"), looks := false }, kinds := [], alts := [], laidByText := true, laidKinds := [.data, .data], laidTests := true, laidLooks := .later }
def ShaHexesCardSaid : Prop := Claim7.holds Tryd.pinned (.plain (OpenSpec.ofChange shaHexesSpec)) shaHexesCard

/-- THE TIED CARD OF 'cryptexlaw02.ShaSizes'. -/
def shaSizesCard : Claim7 := { stood := { row := shaSizesRow, standIns := [], harness := (true, "fc01a405b65bdbe8f204f32992df092aa4f7de9b63256ea0b8b1a1ac54589220"), looks := false }, kinds := [], alts := [], laidByText := true, laidKinds := [.data, .data], laidTests := true, laidLooks := .later }
def ShaSizesCardSaid : Prop := Claim7.holds Tryd.pinned (.plain (OpenSpec.ofChange shaSizesSpec)) shaSizesCard

/-- THE TIED CARD OF 'cryptexlaw03.MacOf'. -/
def macOfCard : Claim7 := { stood := { row := macOfRow, standIns := [], harness := (true, "fc01a405b65bdbe8f204f32992df092aa4f7de9b63256ea0b8b1a1ac54589220"), looks := false }, kinds := [], alts := [], laidByText := true, laidKinds := [.data, .data], laidTests := true, laidLooks := .later }
def MacOfCardSaid : Prop := Claim7.holds Tryd.pinned (.plain (OpenSpec.ofChange macOfSpec)) macOfCard

/-- THE TIED CARD OF 'cryptexlaw03.MacExpands'. -/
def macExpandsCard : Claim7 := { stood := { row := macExpandsRow, standIns := [], harness := (true, "fc01a405b65bdbe8f204f32992df092aa4f7de9b63256ea0b8b1a1ac54589220"), looks := false }, kinds := [], alts := [], laidByText := true, laidKinds := [.data, .data], laidTests := true, laidLooks := .later }
def MacExpandsCardSaid : Prop := Claim7.holds Tryd.pinned (.plain (OpenSpec.ofChange macExpandsSpec)) macExpandsCard

/-- THE TIED CARD OF 'cryptexlaw03.MacBegins'. -/
def macBeginsCard : Claim7 := { stood := { row := macBeginsRow, standIns := [], harness := (true, "fc01a405b65bdbe8f204f32992df092aa4f7de9b63256ea0b8b1a1ac54589220"), looks := false }, kinds := [], alts := [], laidByText := true, laidKinds := [.data, .data], laidTests := true, laidLooks := .later }
def MacBeginsCardSaid : Prop := Claim7.holds Tryd.pinned (.plain (OpenSpec.ofChange macBeginsSpec)) macBeginsCard

/-- THE TIED CARD OF 'cryptexlaw03.MacInfos'. -/
def macInfosCard : Claim7 := { stood := { row := macInfosRow, standIns := [], harness := (true, "fc01a405b65bdbe8f204f32992df092aa4f7de9b63256ea0b8b1a1ac54589220"), looks := false }, kinds := [], alts := [], laidByText := true, laidKinds := [.data, .data], laidTests := true, laidLooks := .later }
def MacInfosCardSaid : Prop := Claim7.holds Tryd.pinned (.plain (OpenSpec.ofChange macInfosSpec)) macInfosCard

/-- THE TIED CARD OF 'cryptexlaw03.MacKeys'. -/
def macKeysCard : Claim7 := { stood := { row := macKeysRow, standIns := [], harness := (true, "fc01a405b65bdbe8f204f32992df092aa4f7de9b63256ea0b8b1a1ac54589220"), looks := false }, kinds := [], alts := [], laidByText := true, laidKinds := [.data, .data], laidTests := true, laidLooks := .later }
def MacKeysCardSaid : Prop := Claim7.holds Tryd.pinned (.plain (OpenSpec.ofChange macKeysSpec)) macKeysCard

/-- THE TIED CARD OF 'cryptexlaw03.MacChecks'. -/
def macChecksCard : Claim7 := { stood := { row := macChecksRow, standIns := [], harness := (true, "fc01a405b65bdbe8f204f32992df092aa4f7de9b63256ea0b8b1a1ac54589220"), looks := false }, kinds := [], alts := [], laidByText := true, laidKinds := [.data, .data], laidTests := true, laidLooks := .later }
def MacChecksCardSaid : Prop := Claim7.holds Tryd.pinned (.plain (OpenSpec.ofChange macChecksSpec)) macChecksCard

/-- THE SECOND FORM's CARD OF 'cryptexlaw02.ShaSums'. -/
def shaSumsUptoCard : Claim7 := { stood := { row := shaSumsUptoRow, standIns := [], harness := (true, "fc01a405b65bdbe8f204f32992df092aa4f7de9b63256ea0b8b1a1ac54589220"), looks := false }, kinds := [], alts := [], laidByText := true, laidKinds := [.data, .data], laidTests := true, laidLooks := .later }
def ShaSumsUptoCardSaid : Prop := Claim7.holds Tryd.pinned (.plain (OpenSpec.upto shaSumsSpec)) shaSumsUptoCard

/-- THE SECOND FORM's CARD OF 'cryptexlaw02.ShaParts'. -/
def shaPartsUptoCard : Claim7 := { stood := { row := shaPartsUptoRow, standIns := [], harness := (true, "fc01a405b65bdbe8f204f32992df092aa4f7de9b63256ea0b8b1a1ac54589220"), looks := false }, kinds := [], alts := [], laidByText := true, laidKinds := [.data, .data], laidTests := true, laidLooks := .later }
def ShaPartsUptoCardSaid : Prop := Claim7.holds Tryd.pinned (.plain (OpenSpec.upto shaPartsSpec)) shaPartsUptoCard

/-- THE SECOND FORM's CARD OF 'cryptexlaw02.ShaClones'. -/
def shaClonesUptoCard : Claim7 := { stood := { row := shaClonesUptoRow, standIns := [], harness := (true, "fc01a405b65bdbe8f204f32992df092aa4f7de9b63256ea0b8b1a1ac54589220"), looks := false }, kinds := [], alts := [], laidByText := true, laidKinds := [.data, .data], laidTests := true, laidLooks := .later }
def ShaClonesUptoCardSaid : Prop := Claim7.holds Tryd.pinned (.plain (OpenSpec.upto shaClonesSpec)) shaClonesUptoCard

/-- THE SECOND FORM's CARD OF 'cryptexlaw02.ShaPads'. -/
def shaPadsUptoCard : Claim7 := { stood := { row := shaPadsUptoRow, standIns := [], harness := (true, "fc01a405b65bdbe8f204f32992df092aa4f7de9b63256ea0b8b1a1ac54589220"), looks := false }, kinds := [], alts := [], laidByText := true, laidKinds := [.data, .data], laidTests := true, laidLooks := .later }
def ShaPadsUptoCardSaid : Prop := Claim7.holds Tryd.pinned (.plain (OpenSpec.upto shaPadsSpec)) shaPadsUptoCard

/-- THE SECOND FORM's CARD OF 'cryptexlaw02.ShaHexes'. -/
def shaHexesUptoCard : Claim7 := { stood := { row := shaHexesUptoRow, standIns := [], harness := (true, "fc01a405b65bdbe8f204f32992df092aa4f7de9b63256ea0b8b1a1ac54589220"), looks := false }, kinds := [], alts := [], laidByText := true, laidKinds := [.data, .data], laidTests := true, laidLooks := .later }
def ShaHexesUptoCardSaid : Prop := Claim7.holds Tryd.pinned (.plain (OpenSpec.upto shaHexesSpec)) shaHexesUptoCard

/-- THE SECOND FORM's CARD OF 'cryptexlaw02.ShaSizes'. -/
def shaSizesUptoCard : Claim7 := { stood := { row := shaSizesUptoRow, standIns := [], harness := (true, "fc01a405b65bdbe8f204f32992df092aa4f7de9b63256ea0b8b1a1ac54589220"), looks := false }, kinds := [], alts := [], laidByText := true, laidKinds := [.data, .data], laidTests := true, laidLooks := .later }
def ShaSizesUptoCardSaid : Prop := Claim7.holds Tryd.pinned (.plain (OpenSpec.upto shaSizesSpec)) shaSizesUptoCard

/-- THE SECOND FORM's CARD OF 'cryptexlaw03.MacOf'. -/
def macOfUptoCard : Claim7 := { stood := { row := macOfUptoRow, standIns := [], harness := (true, "fc01a405b65bdbe8f204f32992df092aa4f7de9b63256ea0b8b1a1ac54589220"), looks := false }, kinds := [], alts := [], laidByText := true, laidKinds := [.data, .data], laidTests := true, laidLooks := .later }
def MacOfUptoCardSaid : Prop := Claim7.holds Tryd.pinned (.plain (OpenSpec.upto macOfSpec)) macOfUptoCard

/-- THE SECOND FORM's CARD OF 'cryptexlaw03.MacExpands'. -/
def macExpandsUptoCard : Claim7 := { stood := { row := macExpandsUptoRow, standIns := [], harness := (true, "fc01a405b65bdbe8f204f32992df092aa4f7de9b63256ea0b8b1a1ac54589220"), looks := false }, kinds := [], alts := [], laidByText := true, laidKinds := [.data, .data], laidTests := true, laidLooks := .later }
def MacExpandsUptoCardSaid : Prop := Claim7.holds Tryd.pinned (.plain (OpenSpec.upto macExpandsSpec)) macExpandsUptoCard

/-- THE SECOND FORM's CARD OF 'cryptexlaw03.MacBegins'. -/
def macBeginsUptoCard : Claim7 := { stood := { row := macBeginsUptoRow, standIns := [], harness := (true, "fc01a405b65bdbe8f204f32992df092aa4f7de9b63256ea0b8b1a1ac54589220"), looks := false }, kinds := [], alts := [], laidByText := true, laidKinds := [.data, .data], laidTests := true, laidLooks := .later }
def MacBeginsUptoCardSaid : Prop := Claim7.holds Tryd.pinned (.plain (OpenSpec.upto macBeginsSpec)) macBeginsUptoCard

/-- THE SECOND FORM's CARD OF 'cryptexlaw03.MacInfos'. -/
def macInfosUptoCard : Claim7 := { stood := { row := macInfosUptoRow, standIns := [], harness := (true, "fc01a405b65bdbe8f204f32992df092aa4f7de9b63256ea0b8b1a1ac54589220"), looks := false }, kinds := [], alts := [], laidByText := true, laidKinds := [.data, .data], laidTests := true, laidLooks := .later }
def MacInfosUptoCardSaid : Prop := Claim7.holds Tryd.pinned (.plain (OpenSpec.upto macInfosSpec)) macInfosUptoCard

/-- THE SECOND FORM's CARD OF 'cryptexlaw03.MacKeys'. -/
def macKeysUptoCard : Claim7 := { stood := { row := macKeysUptoRow, standIns := [], harness := (true, "fc01a405b65bdbe8f204f32992df092aa4f7de9b63256ea0b8b1a1ac54589220"), looks := false }, kinds := [], alts := [], laidByText := true, laidKinds := [.data, .data], laidTests := true, laidLooks := .later }
def MacKeysUptoCardSaid : Prop := Claim7.holds Tryd.pinned (.plain (OpenSpec.upto macKeysSpec)) macKeysUptoCard

/-- THE SECOND FORM's CARD OF 'cryptexlaw03.MacChecks'. -/
def macChecksUptoCard : Claim7 := { stood := { row := macChecksUptoRow, standIns := [], harness := (true, "fc01a405b65bdbe8f204f32992df092aa4f7de9b63256ea0b8b1a1ac54589220"), looks := false }, kinds := [], alts := [], laidByText := true, laidKinds := [.data, .data], laidTests := true, laidLooks := .later }
def MacChecksUptoCardSaid : Prop := Claim7.holds Tryd.pinned (.plain (OpenSpec.upto macChecksSpec)) macChecksUptoCard
end Rows
end Go.Proofs.YtlegohnjbkgclaaDoor
