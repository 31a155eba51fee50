/-
  No cell of these rows narrows 'for every input' (looked for: loops, veiled, ifaces, maps, wideKeys, modest, calm, conditions, laid).
  DERIVED. THE GIVEN ROWS OF THIS SEAT. 12 by the template 'for every input the law returns true; each argument reads behind the call as it read before'; 0 by the template 'total and deterministic' (their statements: YtmbnklknpbgipaaTotals.lean).
  GIVEN WITH THE SEED: the statements are not yours to turn. If you find one false, say at which input.
  Laid BY PROGRAM, IN A SANDBOX (cutbox-rows.mjs): the forced cells as the released guide's own fill.sh prints them over the translation 20367f48d95b58c6… (all of the seat's roots in one cut). By AI agents, Wed Nov 11 2026. No macro, syntax, notation, axiom, sorry.
-/
import Derived.Test.YtmbnklknpbgipaaChecked
import GoSem.Claim
import GoSem.ClaimJoined
import GoSem.ClaimMapViews
import Derived.JoinedTies
import Derived.KernelRfl
namespace Go.Proofs.Ytmbnklknpbgipaa
/- THE CELL 'sum', in the pinned program and in every row, IS THE sha256 OF THE DUMP (.gsa) THAT YtmbnklknpbgipaaProg.lean LOADS. Nothing in Lean hashes anything: it is a label: what it is worth is what the hold of that sum in a sandbox is worth. -/
noncomputable def Try.pinned : Pinned := { name := "ytmbnklknpbgipaa", sum := "20367f48d95b58c6629eef74c01776a3e1ef57bfdc5d78cfdee6cbdabc70ff05", checked := Try.checked }
namespace Rows
def none {H : Type} : Left H := { results := [], args := [] }

/-- 'cryptexlaw01.OctetNumbers': WHATEVER THE INPUT: true; the input reads as it did. -/
def octetNumbersSpec : ChangeSpec := { name := "octetNumbers", fn := fun _ => fun
  | [d1, d2, d3] => { results := [.lit (.bool true)], args := [d1, d2, d3] }
  | _ => none }
def octetNumbersRow : OpenClaim := { program := "ytmbnklknpbgipaa", sum := "20367f48d95b58c6629eef74c01776a3e1ef57bfdc5d78cfdee6cbdabc70ff05", func := "cryptex/cryptexlaw01.OctetNumbers", spec := "octetNumbers", inPlace := ["internal/abi.NoEscape", "internal/bytealg.MakeNoZero"], apart := false }
def OctetNumbersSaid : Prop := octetNumbersRow.holds Try.pinned (OpenSpec.ofChange octetNumbersSpec)

/-- ITS FALSE NEIGHBOUR: 'it returns false'. Refute it at one input. -/
def octetNumbersWrong : ChangeSpec := { name := "octetNumbers", fn := fun _ => fun
  | [d1, d2, d3] => { results := [.lit (.bool false)], args := [d1, d2, d3] }
  | _ => none }
def OctetNumbersWrongFalsely : Prop := octetNumbersRow.holds Try.pinned (OpenSpec.ofChange octetNumbersWrong)

/-- 'cryptexlaw01.OctetMixes': WHATEVER THE INPUT: true; the input reads as it did. -/
def octetMixesSpec : ChangeSpec := { name := "octetMixes", fn := fun _ => fun
  | [d1, d2, d3] => { results := [.lit (.bool true)], args := [d1, d2, d3] }
  | _ => none }
def octetMixesRow : OpenClaim := { program := "ytmbnklknpbgipaa", sum := "20367f48d95b58c6629eef74c01776a3e1ef57bfdc5d78cfdee6cbdabc70ff05", func := "cryptex/cryptexlaw01.OctetMixes", spec := "octetMixes", inPlace := ["internal/abi.NoEscape", "internal/bytealg.MakeNoZero"], apart := false }
def OctetMixesSaid : Prop := octetMixesRow.holds Try.pinned (OpenSpec.ofChange octetMixesSpec)

/-- ITS FALSE NEIGHBOUR: 'it returns false'. Refute it at one input. -/
def octetMixesWrong : ChangeSpec := { name := "octetMixes", fn := fun _ => fun
  | [d1, d2, d3] => { results := [.lit (.bool false)], args := [d1, d2, d3] }
  | _ => none }
def OctetMixesWrongFalsely : Prop := octetMixesRow.holds Try.pinned (OpenSpec.ofChange octetMixesWrong)

/-- 'cryptexlaw01.OctetTurns': WHATEVER THE INPUT: true; the input reads as it did. -/
def octetTurnsSpec : ChangeSpec := { name := "octetTurns", fn := fun _ => fun
  | [d1, d2, d3] => { results := [.lit (.bool true)], args := [d1, d2, d3] }
  | _ => none }
def octetTurnsRow : OpenClaim := { program := "ytmbnklknpbgipaa", sum := "20367f48d95b58c6629eef74c01776a3e1ef57bfdc5d78cfdee6cbdabc70ff05", func := "cryptex/cryptexlaw01.OctetTurns", spec := "octetTurns", inPlace := ["internal/abi.NoEscape", "internal/bytealg.MakeNoZero"], apart := false }
def OctetTurnsSaid : Prop := octetTurnsRow.holds Try.pinned (OpenSpec.ofChange octetTurnsSpec)

/-- ITS FALSE NEIGHBOUR: 'it returns false'. Refute it at one input. -/
def octetTurnsWrong : ChangeSpec := { name := "octetTurns", fn := fun _ => fun
  | [d1, d2, d3] => { results := [.lit (.bool false)], args := [d1, d2, d3] }
  | _ => none }
def OctetTurnsWrongFalsely : Prop := octetTurnsRow.holds Try.pinned (OpenSpec.ofChange octetTurnsWrong)

/-- 'cryptexlaw01.OctetWords': WHATEVER THE INPUT: true; the input reads as it did. -/
def octetWordsSpec : ChangeSpec := { name := "octetWords", fn := fun _ => fun
  | [d1, d2] => { results := [.lit (.bool true)], args := [d1, d2] }
  | _ => none }
def octetWordsRow : OpenClaim := { program := "ytmbnklknpbgipaa", sum := "20367f48d95b58c6629eef74c01776a3e1ef57bfdc5d78cfdee6cbdabc70ff05", func := "cryptex/cryptexlaw01.OctetWords", spec := "octetWords", inPlace := ["internal/abi.NoEscape", "internal/bytealg.MakeNoZero"], apart := false }
def OctetWordsSaid : Prop := octetWordsRow.holds Try.pinned (OpenSpec.ofChange octetWordsSpec)

/-- ITS FALSE NEIGHBOUR: 'it returns false'. Refute it at one input. -/
def octetWordsWrong : ChangeSpec := { name := "octetWords", fn := fun _ => fun
  | [d1, d2] => { results := [.lit (.bool false)], args := [d1, d2] }
  | _ => none }
def OctetWordsWrongFalsely : Prop := octetWordsRow.holds Try.pinned (OpenSpec.ofChange octetWordsWrong)

/-- 'cryptexlaw01.OctetBack': WHATEVER THE INPUT: true; the input reads as it did. -/
def octetBackSpec : ChangeSpec := { name := "octetBack", fn := fun _ => fun
  | [d1, d2] => { results := [.lit (.bool true)], args := [d1, d2] }
  | _ => none }
def octetBackRow : OpenClaim := { program := "ytmbnklknpbgipaa", sum := "20367f48d95b58c6629eef74c01776a3e1ef57bfdc5d78cfdee6cbdabc70ff05", func := "cryptex/cryptexlaw01.OctetBack", spec := "octetBack", inPlace := ["internal/abi.NoEscape", "internal/bytealg.MakeNoZero"], apart := false }
def OctetBackSaid : Prop := octetBackRow.holds Try.pinned (OpenSpec.ofChange octetBackSpec)

/-- ITS FALSE NEIGHBOUR: 'it returns false'. Refute it at one input. -/
def octetBackWrong : ChangeSpec := { name := "octetBack", fn := fun _ => fun
  | [d1, d2] => { results := [.lit (.bool false)], args := [d1, d2] }
  | _ => none }
def OctetBackWrongFalsely : Prop := octetBackRow.holds Try.pinned (OpenSpec.ofChange octetBackWrong)

/-- 'cryptexlaw01.OctetSelf': WHATEVER THE INPUT: true; the input reads as it did. -/
def octetSelfSpec : ChangeSpec := { name := "octetSelf", fn := fun _ => fun
  | [d1, d2] => { results := [.lit (.bool true)], args := [d1, d2] }
  | _ => none }
def octetSelfRow : OpenClaim := { program := "ytmbnklknpbgipaa", sum := "20367f48d95b58c6629eef74c01776a3e1ef57bfdc5d78cfdee6cbdabc70ff05", func := "cryptex/cryptexlaw01.OctetSelf", spec := "octetSelf", inPlace := ["internal/abi.NoEscape", "internal/bytealg.MakeNoZero"], apart := false }
def OctetSelfSaid : Prop := octetSelfRow.holds Try.pinned (OpenSpec.ofChange octetSelfSpec)

/-- ITS FALSE NEIGHBOUR: 'it returns false'. Refute it at one input. -/
def octetSelfWrong : ChangeSpec := { name := "octetSelf", fn := fun _ => fun
  | [d1, d2] => { results := [.lit (.bool false)], args := [d1, d2] }
  | _ => none }
def OctetSelfWrongFalsely : Prop := octetSelfRow.holds Try.pinned (OpenSpec.ofChange octetSelfWrong)

/-- 'cryptexlaw01.OctetFills': WHATEVER THE INPUT: true; the input reads as it did. -/
def octetFillsSpec : ChangeSpec := { name := "octetFills", fn := fun _ => fun
  | [d1, d2] => { results := [.lit (.bool true)], args := [d1, d2] }
  | _ => none }
def octetFillsRow : OpenClaim := { program := "ytmbnklknpbgipaa", sum := "20367f48d95b58c6629eef74c01776a3e1ef57bfdc5d78cfdee6cbdabc70ff05", func := "cryptex/cryptexlaw01.OctetFills", spec := "octetFills", inPlace := ["internal/abi.NoEscape", "internal/bytealg.MakeNoZero"], apart := false }
def OctetFillsSaid : Prop := octetFillsRow.holds Try.pinned (OpenSpec.ofChange octetFillsSpec)

/-- ITS FALSE NEIGHBOUR: 'it returns false'. Refute it at one input. -/
def octetFillsWrong : ChangeSpec := { name := "octetFills", fn := fun _ => fun
  | [d1, d2] => { results := [.lit (.bool false)], args := [d1, d2] }
  | _ => none }
def OctetFillsWrongFalsely : Prop := octetFillsRow.holds Try.pinned (OpenSpec.ofChange octetFillsWrong)

/-- 'cryptexlaw13.PadTells': WHATEVER THE INPUT: true; the input reads as it did. -/
def padTellsSpec : ChangeSpec := { name := "padTells", fn := fun _ => fun
  | [d1, d2, d3, d4] => { results := [.lit (.bool true)], args := [d1, d2, d3, d4] }
  | _ => none }
def padTellsRow : OpenClaim := { program := "ytmbnklknpbgipaa", sum := "20367f48d95b58c6629eef74c01776a3e1ef57bfdc5d78cfdee6cbdabc70ff05", func := "cryptex/cryptexlaw13.PadTells", spec := "padTells", inPlace := ["internal/abi.NoEscape", "internal/bytealg.MakeNoZero"], unfollowed := true, recurses := true, apart := false }
def PadTellsSaid : Prop := padTellsRow.holds Try.pinned (OpenSpec.ofChange padTellsSpec)

/-- ITS FALSE NEIGHBOUR: 'it returns false'. Refute it at one input. -/
def padTellsWrong : ChangeSpec := { name := "padTells", fn := fun _ => fun
  | [d1, d2, d3, d4] => { results := [.lit (.bool false)], args := [d1, d2, d3, d4] }
  | _ => none }
def PadTellsWrongFalsely : Prop := padTellsRow.holds Try.pinned (OpenSpec.ofChange padTellsWrong)

/-- 'cryptexlaw13.PadBack': WHATEVER THE INPUT: true; the input reads as it did. -/
def padBackSpec : ChangeSpec := { name := "padBack", fn := fun _ => fun
  | [d1, d2] => { results := [.lit (.bool true)], args := [d1, d2] }
  | _ => none }
def padBackRow : OpenClaim := { program := "ytmbnklknpbgipaa", sum := "20367f48d95b58c6629eef74c01776a3e1ef57bfdc5d78cfdee6cbdabc70ff05", func := "cryptex/cryptexlaw13.PadBack", spec := "padBack", inPlace := ["internal/abi.NoEscape", "internal/bytealg.MakeNoZero"], unfollowed := true, recurses := true, apart := false }
def PadBackSaid : Prop := padBackRow.holds Try.pinned (OpenSpec.ofChange padBackSpec)

/-- ITS FALSE NEIGHBOUR: 'it returns false'. Refute it at one input. -/
def padBackWrong : ChangeSpec := { name := "padBack", fn := fun _ => fun
  | [d1, d2] => { results := [.lit (.bool false)], args := [d1, d2] }
  | _ => none }
def PadBackWrongFalsely : Prop := padBackRow.holds Try.pinned (OpenSpec.ofChange padBackWrong)

/-- 'cryptexlaw13.PadHides': WHATEVER THE INPUT: true; the input reads as it did. -/
def padHidesSpec : ChangeSpec := { name := "padHides", fn := fun _ => fun
  | [d1, d2] => { results := [.lit (.bool true)], args := [d1, d2] }
  | _ => none }
def padHidesRow : OpenClaim := { program := "ytmbnklknpbgipaa", sum := "20367f48d95b58c6629eef74c01776a3e1ef57bfdc5d78cfdee6cbdabc70ff05", func := "cryptex/cryptexlaw13.PadHides", spec := "padHides", inPlace := ["internal/abi.NoEscape", "internal/bytealg.MakeNoZero"], unfollowed := true, recurses := true, apart := false }
def PadHidesSaid : Prop := padHidesRow.holds Try.pinned (OpenSpec.ofChange padHidesSpec)

/-- ITS FALSE NEIGHBOUR: 'it returns false'. Refute it at one input. -/
def padHidesWrong : ChangeSpec := { name := "padHides", fn := fun _ => fun
  | [d1, d2] => { results := [.lit (.bool false)], args := [d1, d2] }
  | _ => none }
def PadHidesWrongFalsely : Prop := padHidesRow.holds Try.pinned (OpenSpec.ofChange padHidesWrong)

/-- 'cryptexlaw13.PadLeast': WHATEVER THE INPUT: true; the input reads as it did. -/
def padLeastSpec : ChangeSpec := { name := "padLeast", fn := fun _ => fun
  | [d] => { results := [.lit (.bool true)], args := [d] }
  | _ => none }
def padLeastRow : OpenClaim := { program := "ytmbnklknpbgipaa", sum := "20367f48d95b58c6629eef74c01776a3e1ef57bfdc5d78cfdee6cbdabc70ff05", func := "cryptex/cryptexlaw13.PadLeast", spec := "padLeast", inPlace := ["internal/abi.NoEscape", "internal/bytealg.MakeNoZero"], unfollowed := true, recurses := true, apart := false }
def PadLeastSaid : Prop := padLeastRow.holds Try.pinned (OpenSpec.ofChange padLeastSpec)

/-- ITS FALSE NEIGHBOUR: 'it returns false'. Refute it at one input. -/
def padLeastWrong : ChangeSpec := { name := "padLeast", fn := fun _ => fun
  | [d] => { results := [.lit (.bool false)], args := [d] }
  | _ => none }
def PadLeastWrongFalsely : Prop := padLeastRow.holds Try.pinned (OpenSpec.ofChange padLeastWrong)

/-- 'cryptexlaw13.PadTurned': WHATEVER THE INPUT: true; the input reads as it did. -/
def padTurnedSpec : ChangeSpec := { name := "padTurned", fn := fun _ => fun
  | [d1, d2, d3] => { results := [.lit (.bool true)], args := [d1, d2, d3] }
  | _ => none }
def padTurnedRow : OpenClaim := { program := "ytmbnklknpbgipaa", sum := "20367f48d95b58c6629eef74c01776a3e1ef57bfdc5d78cfdee6cbdabc70ff05", func := "cryptex/cryptexlaw13.PadTurned", spec := "padTurned", inPlace := ["internal/abi.NoEscape", "internal/bytealg.MakeNoZero"], unfollowed := true, recurses := true, apart := false }
def PadTurnedSaid : Prop := padTurnedRow.holds Try.pinned (OpenSpec.ofChange padTurnedSpec)

/-- ITS FALSE NEIGHBOUR: 'it returns false'. Refute it at one input. -/
def padTurnedWrong : ChangeSpec := { name := "padTurned", fn := fun _ => fun
  | [d1, d2, d3] => { results := [.lit (.bool false)], args := [d1, d2, d3] }
  | _ => none }
def PadTurnedWrongFalsely : Prop := padTurnedRow.holds Try.pinned (OpenSpec.ofChange padTurnedWrong)

/- THE SECOND FORM. 'bulk': how many values and letters a reading holds, each counted each time it is reached (what is shared counts as often as it is met; a slice's spare places count too). A statement '..UptoSaid' is the law's where the arguments, and the package variables that the reading takes, are together of bulk at most 1048576: NARROWER than '..Said'. Prove '..Said' where nothing that the law and all that it calls make is longer than what came in: it says more and counts as full. Else prove '..UptoSaid'. A law counts once. -/
mutual
def uptoBulk {H : Type} : DataW H → Nat
  | .lit (.string bytes) => bytes.length + 1
  | .lit _ => 1
  | .nil => 1
  | .ptr d => uptoBulk d + 1
  | .slice elems spare => uptoBulkAll elems + uptoBulkAll spare + 1
  | .agg parts => uptoBulkAll parts + 1
  | .iface _ d => uptoBulk d + 1
  | .map entries => uptoBulkEntries entries + 1
  | .held _ => 1
def uptoBulkAll {H : Type} : List (DataW H) → Nat
  | [] => 0
  | d :: r => uptoBulk d + uptoBulkAll r
def uptoBulkEntries {H : Type} : List (Lit × DataW H) → Nat
  | [] => 0
  | x :: r => uptoBulkEntry x + uptoBulkEntries r
def uptoBulkEntry {H : Type} : Lit × DataW H → Nat
  | (.string bytes, d) => bytes.length + uptoBulk d + 1
  | (_, d) => uptoBulk d + 1
 end
def uptoSmall : (H : Type) → List (DataW H) → Bool := fun _ ds => decide (uptoBulkAll ds ≤ 1048576)
def OpenSpec.upto (s : _root_.Go.ChangeSpec) : _root_.Go.OpenSpec := { _root_.Go.OpenSpec.ofChange s with cond := some uptoSmall }

/-- 'cryptexlaw01.OctetNumbers', WHERE WHAT IT READS IS OF BULK AT MOST 1048576: true; the input reads as it did. -/
def octetNumbersUptoRow : OpenClaim := { program := "ytmbnklknpbgipaa", sum := "20367f48d95b58c6629eef74c01776a3e1ef57bfdc5d78cfdee6cbdabc70ff05", func := "cryptex/cryptexlaw01.OctetNumbers", spec := "octetNumbers", inPlace := ["internal/abi.NoEscape", "internal/bytealg.MakeNoZero"], apart := false, narrowed := true }
def OctetNumbersUptoSaid : Prop := octetNumbersUptoRow.holds Try.pinned (OpenSpec.upto octetNumbersSpec)

/-- 'cryptexlaw01.OctetMixes', WHERE WHAT IT READS IS OF BULK AT MOST 1048576: true; the input reads as it did. -/
def octetMixesUptoRow : OpenClaim := { program := "ytmbnklknpbgipaa", sum := "20367f48d95b58c6629eef74c01776a3e1ef57bfdc5d78cfdee6cbdabc70ff05", func := "cryptex/cryptexlaw01.OctetMixes", spec := "octetMixes", inPlace := ["internal/abi.NoEscape", "internal/bytealg.MakeNoZero"], apart := false, narrowed := true }
def OctetMixesUptoSaid : Prop := octetMixesUptoRow.holds Try.pinned (OpenSpec.upto octetMixesSpec)

/-- 'cryptexlaw01.OctetTurns', WHERE WHAT IT READS IS OF BULK AT MOST 1048576: true; the input reads as it did. -/
def octetTurnsUptoRow : OpenClaim := { program := "ytmbnklknpbgipaa", sum := "20367f48d95b58c6629eef74c01776a3e1ef57bfdc5d78cfdee6cbdabc70ff05", func := "cryptex/cryptexlaw01.OctetTurns", spec := "octetTurns", inPlace := ["internal/abi.NoEscape", "internal/bytealg.MakeNoZero"], apart := false, narrowed := true }
def OctetTurnsUptoSaid : Prop := octetTurnsUptoRow.holds Try.pinned (OpenSpec.upto octetTurnsSpec)

/-- 'cryptexlaw01.OctetWords', WHERE WHAT IT READS IS OF BULK AT MOST 1048576: true; the input reads as it did. -/
def octetWordsUptoRow : OpenClaim := { program := "ytmbnklknpbgipaa", sum := "20367f48d95b58c6629eef74c01776a3e1ef57bfdc5d78cfdee6cbdabc70ff05", func := "cryptex/cryptexlaw01.OctetWords", spec := "octetWords", inPlace := ["internal/abi.NoEscape", "internal/bytealg.MakeNoZero"], apart := false, narrowed := true }
def OctetWordsUptoSaid : Prop := octetWordsUptoRow.holds Try.pinned (OpenSpec.upto octetWordsSpec)

/-- 'cryptexlaw01.OctetBack', WHERE WHAT IT READS IS OF BULK AT MOST 1048576: true; the input reads as it did. -/
def octetBackUptoRow : OpenClaim := { program := "ytmbnklknpbgipaa", sum := "20367f48d95b58c6629eef74c01776a3e1ef57bfdc5d78cfdee6cbdabc70ff05", func := "cryptex/cryptexlaw01.OctetBack", spec := "octetBack", inPlace := ["internal/abi.NoEscape", "internal/bytealg.MakeNoZero"], apart := false, narrowed := true }
def OctetBackUptoSaid : Prop := octetBackUptoRow.holds Try.pinned (OpenSpec.upto octetBackSpec)

/-- 'cryptexlaw01.OctetSelf', WHERE WHAT IT READS IS OF BULK AT MOST 1048576: true; the input reads as it did. -/
def octetSelfUptoRow : OpenClaim := { program := "ytmbnklknpbgipaa", sum := "20367f48d95b58c6629eef74c01776a3e1ef57bfdc5d78cfdee6cbdabc70ff05", func := "cryptex/cryptexlaw01.OctetSelf", spec := "octetSelf", inPlace := ["internal/abi.NoEscape", "internal/bytealg.MakeNoZero"], apart := false, narrowed := true }
def OctetSelfUptoSaid : Prop := octetSelfUptoRow.holds Try.pinned (OpenSpec.upto octetSelfSpec)

/-- 'cryptexlaw01.OctetFills', WHERE WHAT IT READS IS OF BULK AT MOST 1048576: true; the input reads as it did. -/
def octetFillsUptoRow : OpenClaim := { program := "ytmbnklknpbgipaa", sum := "20367f48d95b58c6629eef74c01776a3e1ef57bfdc5d78cfdee6cbdabc70ff05", func := "cryptex/cryptexlaw01.OctetFills", spec := "octetFills", inPlace := ["internal/abi.NoEscape", "internal/bytealg.MakeNoZero"], apart := false, narrowed := true }
def OctetFillsUptoSaid : Prop := octetFillsUptoRow.holds Try.pinned (OpenSpec.upto octetFillsSpec)

/-- 'cryptexlaw13.PadTells', WHERE WHAT IT READS IS OF BULK AT MOST 1048576: true; the input reads as it did. -/
def padTellsUptoRow : OpenClaim := { program := "ytmbnklknpbgipaa", sum := "20367f48d95b58c6629eef74c01776a3e1ef57bfdc5d78cfdee6cbdabc70ff05", func := "cryptex/cryptexlaw13.PadTells", spec := "padTells", inPlace := ["internal/abi.NoEscape", "internal/bytealg.MakeNoZero"], unfollowed := true, recurses := true, apart := false, narrowed := true }
def PadTellsUptoSaid : Prop := padTellsUptoRow.holds Try.pinned (OpenSpec.upto padTellsSpec)

/-- 'cryptexlaw13.PadBack', WHERE WHAT IT READS IS OF BULK AT MOST 1048576: true; the input reads as it did. -/
def padBackUptoRow : OpenClaim := { program := "ytmbnklknpbgipaa", sum := "20367f48d95b58c6629eef74c01776a3e1ef57bfdc5d78cfdee6cbdabc70ff05", func := "cryptex/cryptexlaw13.PadBack", spec := "padBack", inPlace := ["internal/abi.NoEscape", "internal/bytealg.MakeNoZero"], unfollowed := true, recurses := true, apart := false, narrowed := true }
def PadBackUptoSaid : Prop := padBackUptoRow.holds Try.pinned (OpenSpec.upto padBackSpec)

/-- 'cryptexlaw13.PadHides', WHERE WHAT IT READS IS OF BULK AT MOST 1048576: true; the input reads as it did. -/
def padHidesUptoRow : OpenClaim := { program := "ytmbnklknpbgipaa", sum := "20367f48d95b58c6629eef74c01776a3e1ef57bfdc5d78cfdee6cbdabc70ff05", func := "cryptex/cryptexlaw13.PadHides", spec := "padHides", inPlace := ["internal/abi.NoEscape", "internal/bytealg.MakeNoZero"], unfollowed := true, recurses := true, apart := false, narrowed := true }
def PadHidesUptoSaid : Prop := padHidesUptoRow.holds Try.pinned (OpenSpec.upto padHidesSpec)

/-- 'cryptexlaw13.PadLeast', WHERE WHAT IT READS IS OF BULK AT MOST 1048576: true; the input reads as it did. -/
def padLeastUptoRow : OpenClaim := { program := "ytmbnklknpbgipaa", sum := "20367f48d95b58c6629eef74c01776a3e1ef57bfdc5d78cfdee6cbdabc70ff05", func := "cryptex/cryptexlaw13.PadLeast", spec := "padLeast", inPlace := ["internal/abi.NoEscape", "internal/bytealg.MakeNoZero"], unfollowed := true, recurses := true, apart := false, narrowed := true }
def PadLeastUptoSaid : Prop := padLeastUptoRow.holds Try.pinned (OpenSpec.upto padLeastSpec)

/-- 'cryptexlaw13.PadTurned', WHERE WHAT IT READS IS OF BULK AT MOST 1048576: true; the input reads as it did. -/
def padTurnedUptoRow : OpenClaim := { program := "ytmbnklknpbgipaa", sum := "20367f48d95b58c6629eef74c01776a3e1ef57bfdc5d78cfdee6cbdabc70ff05", func := "cryptex/cryptexlaw13.PadTurned", spec := "padTurned", inPlace := ["internal/abi.NoEscape", "internal/bytealg.MakeNoZero"], unfollowed := true, recurses := true, apart := false, narrowed := true }
def PadTurnedUptoSaid : Prop := padTurnedUptoRow.holds Try.pinned (OpenSpec.upto padTurnedSpec)

end Rows
end Go.Proofs.Ytmbnklknpbgipaa
