/-
  NARROWER THAN 'FOR EVERY INPUT', by the rows' own cells (each row's printed sentence says how): PolyNumbers: laid · PolyTags: laid · PolyOrders: laid · PolyMoves: laid · PolyClamps: laid · PolySteps: laid.
  DERIVED. THE GIVEN ROWS OF THIS SEAT. 6 by the template 'for every input the law returns true; each argument reads behind the call as it read before'; 0 by the template 'total and deterministic' (their statements: YthpodgkmghgenaaDoorTotals.lean).
  GIVEN WITH THE SEED: the statements are not yours to turn. If you find one false, say at which input.
  Laid BY PROGRAM, IN A SANDBOX (cutbox-rows.mjs): the forced cells as the released guide's own fill.sh prints them over the translation 4bffc9cf17b424a3… (all of the seat's roots in one cut). By AI agents, Wed Nov 11 2026. No macro, syntax, notation, axiom, sorry.
-/
import Derived.Test.YthpodgkmghgenaaDoorChecked
import GoSem.Claim
import GoSem.ClaimJoined
import GoSem.ClaimMapViews
import Derived.JoinedTies
import Derived.KernelRfl
namespace Go.Proofs.YthpodgkmghgenaaDoor
/- THE CELL 'sum', in the pinned program and in every row, IS THE sha256 OF THE DUMP (.gsa) THAT YthpodgkmghgenaaDoorProg.lean LOADS. Nothing in Lean hashes anything: it is a label: what it is worth is what the hold of that sum in a sandbox is worth. -/
noncomputable def Tryd.pinned : Pinned := { name := "ythpodgkmghgenaadoor", sum := "4bffc9cf17b424a38ba7b891e127eadaf0827a7bfc9d4a77986b6eb88ce0228b", checked := Tryd.checked }
namespace Rows
def none {H : Type} : Left H := { results := [], args := [] }

/- WHAT THE LISTED PACKAGE-LEVEL VARIABLES READ AS WHEN THE CALL BEGINS. Each datum BY PROGRAM (the guide's laid-datum.mjs) off the statement by which the dump's own 'gosem.cut.vars' lays the variable. In a bare row this is a premise. The card (YthpodgkmghgenaaDoorCards.lean) ties it to the program's text. -/
def laid_cryptex_poly_p {H : Type} : DataW H := .agg [.lit (.int .u64 18446744073709551611), .lit (.int .u64 18446744073709551615), .lit (.int .u64 3)]

/-- 'cryptexlaw05.PolyNumbers': WHATEVER THE INPUT: true; the input reads as it did. -/
def polyNumbersSpec : ChangeSpec := { name := "polyNumbers", fn := fun _ => fun
  | [d1, d2] => { results := [.lit (.bool true)], args := [d1, d2] }
  | _ => none }
def polyNumbersRow : OpenClaim := { program := "ythpodgkmghgenaadoor", sum := "4bffc9cf17b424a38ba7b891e127eadaf0827a7bfc9d4a77986b6eb88ce0228b", func := "cryptex/cryptexlaw05.PolyNumbers", spec := "polyNumbers", inPlace := ["internal/bytealg.IndexByteString", "internal/abi.NoEscape", "internal/bytealg.MakeNoZero", "math/bits.Add64"], unfollowed := true, recurses := true, named := ["cryptex/poly.p"], apart := false, laid := [("cryptex/poly.p", laid_cryptex_poly_p)] }
def PolyNumbersSaid : Prop := polyNumbersRow.holds Tryd.pinned (OpenSpec.ofChange polyNumbersSpec)

/-- ITS FALSE NEIGHBOUR: 'it returns false'. Refute it at one input. -/
def polyNumbersWrong : ChangeSpec := { name := "polyNumbers", fn := fun _ => fun
  | [d1, d2] => { results := [.lit (.bool false)], args := [d1, d2] }
  | _ => none }
def PolyNumbersWrongFalsely : Prop := polyNumbersRow.holds Tryd.pinned (OpenSpec.ofChange polyNumbersWrong)

/-- 'cryptexlaw05.PolyTags': WHATEVER THE INPUT: true; the input reads as it did. -/
def polyTagsSpec : ChangeSpec := { name := "polyTags", fn := fun _ => fun
  | [d1, d2, d3] => { results := [.lit (.bool true)], args := [d1, d2, d3] }
  | _ => none }
def polyTagsRow : OpenClaim := { program := "ythpodgkmghgenaadoor", sum := "4bffc9cf17b424a38ba7b891e127eadaf0827a7bfc9d4a77986b6eb88ce0228b", func := "cryptex/cryptexlaw05.PolyTags", spec := "polyTags", inPlace := ["internal/bytealg.IndexByteString", "internal/abi.NoEscape", "internal/bytealg.MakeNoZero", "math/bits.Add64"], unfollowed := true, recurses := true, named := ["cryptex/poly.p"], apart := false, laid := [("cryptex/poly.p", laid_cryptex_poly_p)] }
def PolyTagsSaid : Prop := polyTagsRow.holds Tryd.pinned (OpenSpec.ofChange polyTagsSpec)

/-- ITS FALSE NEIGHBOUR: 'it returns false'. Refute it at one input. -/
def polyTagsWrong : ChangeSpec := { name := "polyTags", fn := fun _ => fun
  | [d1, d2, d3] => { results := [.lit (.bool false)], args := [d1, d2, d3] }
  | _ => none }
def PolyTagsWrongFalsely : Prop := polyTagsRow.holds Tryd.pinned (OpenSpec.ofChange polyTagsWrong)

/-- 'cryptexlaw05.PolyOrders': WHATEVER THE INPUT: true; the input reads as it did. -/
def polyOrdersSpec : ChangeSpec := { name := "polyOrders", fn := fun _ => fun
  | [d1, d2, d3] => { results := [.lit (.bool true)], args := [d1, d2, d3] }
  | _ => none }
def polyOrdersRow : OpenClaim := { program := "ythpodgkmghgenaadoor", sum := "4bffc9cf17b424a38ba7b891e127eadaf0827a7bfc9d4a77986b6eb88ce0228b", func := "cryptex/cryptexlaw05.PolyOrders", spec := "polyOrders", inPlace := ["internal/bytealg.IndexByteString", "internal/abi.NoEscape", "internal/bytealg.MakeNoZero", "math/bits.Add64"], unfollowed := true, recurses := true, named := ["cryptex/poly.p"], apart := false, laid := [("cryptex/poly.p", laid_cryptex_poly_p)] }
def PolyOrdersSaid : Prop := polyOrdersRow.holds Tryd.pinned (OpenSpec.ofChange polyOrdersSpec)

/-- ITS FALSE NEIGHBOUR: 'it returns false'. Refute it at one input. -/
def polyOrdersWrong : ChangeSpec := { name := "polyOrders", fn := fun _ => fun
  | [d1, d2, d3] => { results := [.lit (.bool false)], args := [d1, d2, d3] }
  | _ => none }
def PolyOrdersWrongFalsely : Prop := polyOrdersRow.holds Tryd.pinned (OpenSpec.ofChange polyOrdersWrong)

/-- 'cryptexlaw05.PolyMoves': WHATEVER THE INPUT: true; the input reads as it did. -/
def polyMovesSpec : ChangeSpec := { name := "polyMoves", fn := fun _ => fun
  | [d1, d2] => { results := [.lit (.bool true)], args := [d1, d2] }
  | _ => none }
def polyMovesRow : OpenClaim := { program := "ythpodgkmghgenaadoor", sum := "4bffc9cf17b424a38ba7b891e127eadaf0827a7bfc9d4a77986b6eb88ce0228b", func := "cryptex/cryptexlaw05.PolyMoves", spec := "polyMoves", inPlace := ["internal/bytealg.IndexByteString", "internal/abi.NoEscape", "internal/bytealg.MakeNoZero", "math/bits.Add64"], unfollowed := true, recurses := true, named := ["cryptex/poly.p"], apart := false, laid := [("cryptex/poly.p", laid_cryptex_poly_p)] }
def PolyMovesSaid : Prop := polyMovesRow.holds Tryd.pinned (OpenSpec.ofChange polyMovesSpec)

/-- ITS FALSE NEIGHBOUR: 'it returns false'. Refute it at one input. -/
def polyMovesWrong : ChangeSpec := { name := "polyMoves", fn := fun _ => fun
  | [d1, d2] => { results := [.lit (.bool false)], args := [d1, d2] }
  | _ => none }
def PolyMovesWrongFalsely : Prop := polyMovesRow.holds Tryd.pinned (OpenSpec.ofChange polyMovesWrong)

/-- 'cryptexlaw05.PolyClamps': WHATEVER THE INPUT: true; the input reads as it did. -/
def polyClampsSpec : ChangeSpec := { name := "polyClamps", fn := fun _ => fun
  | [d1, d2] => { results := [.lit (.bool true)], args := [d1, d2] }
  | _ => none }
def polyClampsRow : OpenClaim := { program := "ythpodgkmghgenaadoor", sum := "4bffc9cf17b424a38ba7b891e127eadaf0827a7bfc9d4a77986b6eb88ce0228b", func := "cryptex/cryptexlaw05.PolyClamps", spec := "polyClamps", inPlace := ["internal/bytealg.IndexByteString", "internal/abi.NoEscape", "internal/bytealg.MakeNoZero", "math/bits.Add64"], unfollowed := true, recurses := true, named := ["cryptex/poly.p"], apart := false, laid := [("cryptex/poly.p", laid_cryptex_poly_p)] }
def PolyClampsSaid : Prop := polyClampsRow.holds Tryd.pinned (OpenSpec.ofChange polyClampsSpec)

/-- ITS FALSE NEIGHBOUR: 'it returns false'. Refute it at one input. -/
def polyClampsWrong : ChangeSpec := { name := "polyClamps", fn := fun _ => fun
  | [d1, d2] => { results := [.lit (.bool false)], args := [d1, d2] }
  | _ => none }
def PolyClampsWrongFalsely : Prop := polyClampsRow.holds Tryd.pinned (OpenSpec.ofChange polyClampsWrong)

/-- 'cryptexlaw05.PolySteps': WHATEVER THE INPUT: true; the input reads as it did. -/
def polyStepsSpec : ChangeSpec := { name := "polySteps", fn := fun _ => fun
  | [d1, d2] => { results := [.lit (.bool true)], args := [d1, d2] }
  | _ => none }
def polyStepsRow : OpenClaim := { program := "ythpodgkmghgenaadoor", sum := "4bffc9cf17b424a38ba7b891e127eadaf0827a7bfc9d4a77986b6eb88ce0228b", func := "cryptex/cryptexlaw05.PolySteps", spec := "polySteps", inPlace := ["internal/bytealg.IndexByteString", "internal/abi.NoEscape", "internal/bytealg.MakeNoZero", "math/bits.Add64"], unfollowed := true, recurses := true, named := ["cryptex/poly.p"], apart := false, laid := [("cryptex/poly.p", laid_cryptex_poly_p)] }
def PolyStepsSaid : Prop := polyStepsRow.holds Tryd.pinned (OpenSpec.ofChange polyStepsSpec)

/-- ITS FALSE NEIGHBOUR: 'it returns false'. Refute it at one input. -/
def polyStepsWrong : ChangeSpec := { name := "polySteps", fn := fun _ => fun
  | [d1, d2] => { results := [.lit (.bool false)], args := [d1, d2] }
  | _ => none }
def PolyStepsWrongFalsely : Prop := polyStepsRow.holds Tryd.pinned (OpenSpec.ofChange polyStepsWrong)

/- THE SECOND FORM. 'bulk': how many values and letters a reading holds, each counted each time it is reached (what is shared counts as often as it is met; a slice's spare places count too). A statement '..UptoSaid' is the law's where the arguments, and the package variables that the reading takes, are together of bulk at most 1048576: NARROWER than '..Said'. Prove '..Said' where nothing that the law and all that it calls make is longer than what came in: it says more and counts as full. Else prove '..UptoSaid'. A law counts once. -/
mutual
def uptoBulk {H : Type} : DataW H → Nat
  | .lit (.string bytes) => bytes.length + 1
  | .lit _ => 1
  | .nil => 1
  | .ptr d => uptoBulk d + 1
  | .slice elems spare => uptoBulkAll elems + uptoBulkAll spare + 1
  | .agg parts => uptoBulkAll parts + 1
  | .iface _ d => uptoBulk d + 1
  | .map entries => uptoBulkEntries entries + 1
  | .held _ => 1
def uptoBulkAll {H : Type} : List (DataW H) → Nat
  | [] => 0
  | d :: r => uptoBulk d + uptoBulkAll r
def uptoBulkEntries {H : Type} : List (Lit × DataW H) → Nat
  | [] => 0
  | x :: r => uptoBulkEntry x + uptoBulkEntries r
def uptoBulkEntry {H : Type} : Lit × DataW H → Nat
  | (.string bytes, d) => bytes.length + uptoBulk d + 1
  | (_, d) => uptoBulk d + 1
 end
def uptoSmall : (H : Type) → List (DataW H) → Bool := fun _ ds => decide (uptoBulkAll ds ≤ 1048576)
def OpenSpec.upto (s : _root_.Go.ChangeSpec) : _root_.Go.OpenSpec := { _root_.Go.OpenSpec.ofChange s with cond := some uptoSmall }

/-- 'cryptexlaw05.PolyNumbers', WHERE WHAT IT READS IS OF BULK AT MOST 1048576: true; the input reads as it did. -/
def polyNumbersUptoRow : OpenClaim := { program := "ythpodgkmghgenaadoor", sum := "4bffc9cf17b424a38ba7b891e127eadaf0827a7bfc9d4a77986b6eb88ce0228b", func := "cryptex/cryptexlaw05.PolyNumbers", spec := "polyNumbers", inPlace := ["internal/bytealg.IndexByteString", "internal/abi.NoEscape", "internal/bytealg.MakeNoZero", "math/bits.Add64"], unfollowed := true, recurses := true, named := ["cryptex/poly.p"], apart := false, laid := [("cryptex/poly.p", laid_cryptex_poly_p)], narrowed := true }
def PolyNumbersUptoSaid : Prop := polyNumbersUptoRow.holds Tryd.pinned (OpenSpec.upto polyNumbersSpec)

/-- 'cryptexlaw05.PolyTags', WHERE WHAT IT READS IS OF BULK AT MOST 1048576: true; the input reads as it did. -/
def polyTagsUptoRow : OpenClaim := { program := "ythpodgkmghgenaadoor", sum := "4bffc9cf17b424a38ba7b891e127eadaf0827a7bfc9d4a77986b6eb88ce0228b", func := "cryptex/cryptexlaw05.PolyTags", spec := "polyTags", inPlace := ["internal/bytealg.IndexByteString", "internal/abi.NoEscape", "internal/bytealg.MakeNoZero", "math/bits.Add64"], unfollowed := true, recurses := true, named := ["cryptex/poly.p"], apart := false, laid := [("cryptex/poly.p", laid_cryptex_poly_p)], narrowed := true }
def PolyTagsUptoSaid : Prop := polyTagsUptoRow.holds Tryd.pinned (OpenSpec.upto polyTagsSpec)

/-- 'cryptexlaw05.PolyOrders', WHERE WHAT IT READS IS OF BULK AT MOST 1048576: true; the input reads as it did. -/
def polyOrdersUptoRow : OpenClaim := { program := "ythpodgkmghgenaadoor", sum := "4bffc9cf17b424a38ba7b891e127eadaf0827a7bfc9d4a77986b6eb88ce0228b", func := "cryptex/cryptexlaw05.PolyOrders", spec := "polyOrders", inPlace := ["internal/bytealg.IndexByteString", "internal/abi.NoEscape", "internal/bytealg.MakeNoZero", "math/bits.Add64"], unfollowed := true, recurses := true, named := ["cryptex/poly.p"], apart := false, laid := [("cryptex/poly.p", laid_cryptex_poly_p)], narrowed := true }
def PolyOrdersUptoSaid : Prop := polyOrdersUptoRow.holds Tryd.pinned (OpenSpec.upto polyOrdersSpec)

/-- 'cryptexlaw05.PolyMoves', WHERE WHAT IT READS IS OF BULK AT MOST 1048576: true; the input reads as it did. -/
def polyMovesUptoRow : OpenClaim := { program := "ythpodgkmghgenaadoor", sum := "4bffc9cf17b424a38ba7b891e127eadaf0827a7bfc9d4a77986b6eb88ce0228b", func := "cryptex/cryptexlaw05.PolyMoves", spec := "polyMoves", inPlace := ["internal/bytealg.IndexByteString", "internal/abi.NoEscape", "internal/bytealg.MakeNoZero", "math/bits.Add64"], unfollowed := true, recurses := true, named := ["cryptex/poly.p"], apart := false, laid := [("cryptex/poly.p", laid_cryptex_poly_p)], narrowed := true }
def PolyMovesUptoSaid : Prop := polyMovesUptoRow.holds Tryd.pinned (OpenSpec.upto polyMovesSpec)

/-- 'cryptexlaw05.PolyClamps', WHERE WHAT IT READS IS OF BULK AT MOST 1048576: true; the input reads as it did. -/
def polyClampsUptoRow : OpenClaim := { program := "ythpodgkmghgenaadoor", sum := "4bffc9cf17b424a38ba7b891e127eadaf0827a7bfc9d4a77986b6eb88ce0228b", func := "cryptex/cryptexlaw05.PolyClamps", spec := "polyClamps", inPlace := ["internal/bytealg.IndexByteString", "internal/abi.NoEscape", "internal/bytealg.MakeNoZero", "math/bits.Add64"], unfollowed := true, recurses := true, named := ["cryptex/poly.p"], apart := false, laid := [("cryptex/poly.p", laid_cryptex_poly_p)], narrowed := true }
def PolyClampsUptoSaid : Prop := polyClampsUptoRow.holds Tryd.pinned (OpenSpec.upto polyClampsSpec)

/-- 'cryptexlaw05.PolySteps', WHERE WHAT IT READS IS OF BULK AT MOST 1048576: true; the input reads as it did. -/
def polyStepsUptoRow : OpenClaim := { program := "ythpodgkmghgenaadoor", sum := "4bffc9cf17b424a38ba7b891e127eadaf0827a7bfc9d4a77986b6eb88ce0228b", func := "cryptex/cryptexlaw05.PolySteps", spec := "polySteps", inPlace := ["internal/bytealg.IndexByteString", "internal/abi.NoEscape", "internal/bytealg.MakeNoZero", "math/bits.Add64"], unfollowed := true, recurses := true, named := ["cryptex/poly.p"], apart := false, laid := [("cryptex/poly.p", laid_cryptex_poly_p)], narrowed := true }
def PolyStepsUptoSaid : Prop := polyStepsUptoRow.holds Tryd.pinned (OpenSpec.upto polyStepsSpec)

end Rows
end Go.Proofs.YthpodgkmghgenaaDoor
