/-
  No cell of these rows narrows 'for every input' (looked for: loops, veiled, ifaces, maps, wideKeys, modest, calm, conditions, laid).
  DERIVED. THE GIVEN ROWS OF THIS SEAT. 4 by the template 'for every input the law returns true; each argument reads behind the call as it read before'; 0 by the template 'total and deterministic' (their statements: YtcjlilddhhnikaaTotals.lean).
  GIVEN WITH THE SEED: the statements are not yours to turn. If you find one false, say at which input.
  Laid BY PROGRAM, IN A SANDBOX (cutbox-rows.mjs): the forced cells as the released guide's own fill.sh prints them over the translation 97e8def01381dfa0… (all of the seat's roots in one cut). By AI agents, Wed Nov 11 2026. No macro, syntax, notation, axiom, sorry.
-/
import Derived.Test.YtcjlilddhhnikaaChecked
import GoSem.Claim
import GoSem.ClaimJoined
import GoSem.ClaimMapViews
import Derived.JoinedTies
import Derived.KernelRfl
namespace Go.Proofs.Ytcjlilddhhnikaa
/- THE CELL 'sum', in the pinned program and in every row, IS THE sha256 OF THE DUMP (.gsa) THAT YtcjlilddhhnikaaProg.lean LOADS. Nothing in Lean hashes anything: it is a label: what it is worth is what the hold of that sum in a sandbox is worth. -/
noncomputable def Try.pinned : Pinned := { name := "ytcjlilddhhnikaa", sum := "97e8def01381dfa035eec1d1a465208d3936a11bd084a63eb0ef2a771175e017", checked := Try.checked }
namespace Rows
def none {H : Type} : Left H := { results := [], args := [] }

/-- 'cryptexlaw20.DiskSteps': WHATEVER THE INPUT: true; the input reads as it did. -/
def diskStepsSpec : ChangeSpec := { name := "diskSteps", fn := fun _ => fun
  | [d1, d2, d3] => { results := [.lit (.bool true)], args := [d1, d2, d3] }
  | _ => none }
def diskStepsRow : OpenClaim := { program := "ytcjlilddhhnikaa", sum := "97e8def01381dfa035eec1d1a465208d3936a11bd084a63eb0ef2a771175e017", func := "cryptex/cryptexlaw20.DiskSteps", spec := "diskSteps", unfollowed := true, recurses := true, apart := false }
def DiskStepsSaid : Prop := diskStepsRow.holds Try.pinned (OpenSpec.ofChange diskStepsSpec)

/-- ITS FALSE NEIGHBOUR: 'it returns false'. Refute it at one input. -/
def diskStepsWrong : ChangeSpec := { name := "diskSteps", fn := fun _ => fun
  | [d1, d2, d3] => { results := [.lit (.bool false)], args := [d1, d2, d3] }
  | _ => none }
def DiskStepsWrongFalsely : Prop := diskStepsRow.holds Try.pinned (OpenSpec.ofChange diskStepsWrong)

/-- 'cryptexlaw20.DiskKeeps': WHATEVER THE INPUT: true; the input reads as it did. -/
def diskKeepsSpec : ChangeSpec := { name := "diskKeeps", fn := fun _ => fun
  | [d1, d2] => { results := [.lit (.bool true)], args := [d1, d2] }
  | _ => none }
def diskKeepsRow : OpenClaim := { program := "ytcjlilddhhnikaa", sum := "97e8def01381dfa035eec1d1a465208d3936a11bd084a63eb0ef2a771175e017", func := "cryptex/cryptexlaw20.DiskKeeps", spec := "diskKeeps", unfollowed := true, recurses := true, apart := false }
def DiskKeepsSaid : Prop := diskKeepsRow.holds Try.pinned (OpenSpec.ofChange diskKeepsSpec)

/-- ITS FALSE NEIGHBOUR: 'it returns false'. Refute it at one input. -/
def diskKeepsWrong : ChangeSpec := { name := "diskKeeps", fn := fun _ => fun
  | [d1, d2] => { results := [.lit (.bool false)], args := [d1, d2] }
  | _ => none }
def DiskKeepsWrongFalsely : Prop := diskKeepsRow.holds Try.pinned (OpenSpec.ofChange diskKeepsWrong)

/-- 'cryptexlaw20.DiskDead': WHATEVER THE INPUT: true; the input reads as it did. -/
def diskDeadSpec : ChangeSpec := { name := "diskDead", fn := fun _ => fun
  | [d1, d2] => { results := [.lit (.bool true)], args := [d1, d2] }
  | _ => none }
def diskDeadRow : OpenClaim := { program := "ytcjlilddhhnikaa", sum := "97e8def01381dfa035eec1d1a465208d3936a11bd084a63eb0ef2a771175e017", func := "cryptex/cryptexlaw20.DiskDead", spec := "diskDead", unfollowed := true, recurses := true, apart := false }
def DiskDeadSaid : Prop := diskDeadRow.holds Try.pinned (OpenSpec.ofChange diskDeadSpec)

/-- ITS FALSE NEIGHBOUR: 'it returns false'. Refute it at one input. -/
def diskDeadWrong : ChangeSpec := { name := "diskDead", fn := fun _ => fun
  | [d1, d2] => { results := [.lit (.bool false)], args := [d1, d2] }
  | _ => none }
def DiskDeadWrongFalsely : Prop := diskDeadRow.holds Try.pinned (OpenSpec.ofChange diskDeadWrong)

/-- 'cryptexlaw20.DiskOwn': WHATEVER THE INPUT: true; the input reads as it did. -/
def diskOwnSpec : ChangeSpec := { name := "diskOwn", fn := fun _ => fun
  | [d1, d2, d3] => { results := [.lit (.bool true)], args := [d1, d2, d3] }
  | _ => none }
def diskOwnRow : OpenClaim := { program := "ytcjlilddhhnikaa", sum := "97e8def01381dfa035eec1d1a465208d3936a11bd084a63eb0ef2a771175e017", func := "cryptex/cryptexlaw20.DiskOwn", spec := "diskOwn", unfollowed := true, recurses := true, apart := false }
def DiskOwnSaid : Prop := diskOwnRow.holds Try.pinned (OpenSpec.ofChange diskOwnSpec)

/-- ITS FALSE NEIGHBOUR: 'it returns false'. Refute it at one input. -/
def diskOwnWrong : ChangeSpec := { name := "diskOwn", fn := fun _ => fun
  | [d1, d2, d3] => { results := [.lit (.bool false)], args := [d1, d2, d3] }
  | _ => none }
def DiskOwnWrongFalsely : Prop := diskOwnRow.holds Try.pinned (OpenSpec.ofChange diskOwnWrong)

/- THE SECOND FORM. 'bulk': how many values and letters a reading holds, each counted each time it is reached (what is shared counts as often as it is met; a slice's spare places count too). A statement '..UptoSaid' is the law's where the arguments, and the package variables that the reading takes, are together of bulk at most 1048576: NARROWER than '..Said'. Prove '..Said' where nothing that the law and all that it calls make is longer than what came in: it says more and counts as full. Else prove '..UptoSaid'. A law counts once. -/
mutual
def uptoBulk {H : Type} : DataW H → Nat
  | .lit (.string bytes) => bytes.length + 1
  | .lit _ => 1
  | .nil => 1
  | .ptr d => uptoBulk d + 1
  | .slice elems spare => uptoBulkAll elems + uptoBulkAll spare + 1
  | .agg parts => uptoBulkAll parts + 1
  | .iface _ d => uptoBulk d + 1
  | .map entries => uptoBulkEntries entries + 1
  | .held _ => 1
def uptoBulkAll {H : Type} : List (DataW H) → Nat
  | [] => 0
  | d :: r => uptoBulk d + uptoBulkAll r
def uptoBulkEntries {H : Type} : List (Lit × DataW H) → Nat
  | [] => 0
  | x :: r => uptoBulkEntry x + uptoBulkEntries r
def uptoBulkEntry {H : Type} : Lit × DataW H → Nat
  | (.string bytes, d) => bytes.length + uptoBulk d + 1
  | (_, d) => uptoBulk d + 1
 end
def uptoSmall : (H : Type) → List (DataW H) → Bool := fun _ ds => decide (uptoBulkAll ds ≤ 1048576)
def OpenSpec.upto (s : _root_.Go.ChangeSpec) : _root_.Go.OpenSpec := { _root_.Go.OpenSpec.ofChange s with cond := some uptoSmall }

/-- 'cryptexlaw20.DiskSteps', WHERE WHAT IT READS IS OF BULK AT MOST 1048576: true; the input reads as it did. -/
def diskStepsUptoRow : OpenClaim := { program := "ytcjlilddhhnikaa", sum := "97e8def01381dfa035eec1d1a465208d3936a11bd084a63eb0ef2a771175e017", func := "cryptex/cryptexlaw20.DiskSteps", spec := "diskSteps", unfollowed := true, recurses := true, apart := false, narrowed := true }
def DiskStepsUptoSaid : Prop := diskStepsUptoRow.holds Try.pinned (OpenSpec.upto diskStepsSpec)

/-- 'cryptexlaw20.DiskKeeps', WHERE WHAT IT READS IS OF BULK AT MOST 1048576: true; the input reads as it did. -/
def diskKeepsUptoRow : OpenClaim := { program := "ytcjlilddhhnikaa", sum := "97e8def01381dfa035eec1d1a465208d3936a11bd084a63eb0ef2a771175e017", func := "cryptex/cryptexlaw20.DiskKeeps", spec := "diskKeeps", unfollowed := true, recurses := true, apart := false, narrowed := true }
def DiskKeepsUptoSaid : Prop := diskKeepsUptoRow.holds Try.pinned (OpenSpec.upto diskKeepsSpec)

/-- 'cryptexlaw20.DiskDead', WHERE WHAT IT READS IS OF BULK AT MOST 1048576: true; the input reads as it did. -/
def diskDeadUptoRow : OpenClaim := { program := "ytcjlilddhhnikaa", sum := "97e8def01381dfa035eec1d1a465208d3936a11bd084a63eb0ef2a771175e017", func := "cryptex/cryptexlaw20.DiskDead", spec := "diskDead", unfollowed := true, recurses := true, apart := false, narrowed := true }
def DiskDeadUptoSaid : Prop := diskDeadUptoRow.holds Try.pinned (OpenSpec.upto diskDeadSpec)

/-- 'cryptexlaw20.DiskOwn', WHERE WHAT IT READS IS OF BULK AT MOST 1048576: true; the input reads as it did. -/
def diskOwnUptoRow : OpenClaim := { program := "ytcjlilddhhnikaa", sum := "97e8def01381dfa035eec1d1a465208d3936a11bd084a63eb0ef2a771175e017", func := "cryptex/cryptexlaw20.DiskOwn", spec := "diskOwn", unfollowed := true, recurses := true, apart := false, narrowed := true }
def DiskOwnUptoSaid : Prop := diskOwnUptoRow.holds Try.pinned (OpenSpec.upto diskOwnSpec)

end Rows
end Go.Proofs.Ytcjlilddhhnikaa
