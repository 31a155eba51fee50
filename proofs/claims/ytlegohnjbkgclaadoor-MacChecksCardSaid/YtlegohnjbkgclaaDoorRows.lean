/-
  NARROWER THAN 'FOR EVERY INPUT', by the rows' own cells (each row's printed sentence says how): ShaSums: laid · ShaParts: laid · ShaClones: laid · ShaPads: laid · ShaHexes: laid · ShaSizes: laid · MacOf: laid · MacExpands: laid · MacBegins: laid · MacInfos: laid · MacKeys: laid · MacChecks: laid.
  DERIVED. THE GIVEN ROWS OF THIS SEAT. 12 by the template 'for every input the law returns true; each argument reads behind the call as it read before'; 0 by the template 'total and deterministic' (their statements: YtlegohnjbkgclaaDoorTotals.lean).
  GIVEN WITH THE SEED: the statements are not yours to turn. If you find one false, say at which input.
  Laid BY PROGRAM, IN A SANDBOX (cutbox-rows.mjs): the forced cells as the released guide's own fill.sh prints them over the translation 68de540c8aa766d9… (all of the seat's roots in one cut). By AI agents, Wed Nov 11 2026. No macro, syntax, notation, axiom, sorry.
-/
import Derived.Test.YtlegohnjbkgclaaDoorChecked
import GoSem.Claim
import GoSem.ClaimJoined
import GoSem.ClaimMapViews
import Derived.JoinedTies
import Derived.KernelRfl
namespace Go.Proofs.YtlegohnjbkgclaaDoor
/- THE CELL 'sum', in the pinned program and in every row, IS THE sha256 OF THE DUMP (.gsa) THAT YtlegohnjbkgclaaDoorProg.lean LOADS. Nothing in Lean hashes anything: it is a label: what it is worth is what the hold of that sum in a sandbox is worth. -/
noncomputable def Tryd.pinned : Pinned := { name := "ytlegohnjbkgclaadoor", sum := "68de540c8aa766d9bb26ab8b354558f9161b6ac5d658446f344afaaf3911c635", checked := Tryd.checked }
namespace Rows
def none {H : Type} : Left H := { results := [], args := [] }

/- WHAT THE LISTED PACKAGE-LEVEL VARIABLES READ AS WHEN THE CALL BEGINS. Each datum BY PROGRAM (the guide's laid-datum.mjs) off the statement by which the dump's own 'gosem.cut.vars' lays the variable. In a bare row this is a premise. The card (YtlegohnjbkgclaaDoorCards.lean) ties it to the program's text. -/
def laid_cryptex_sha_ks {H : Type} : DataW H := .agg [.lit (.int .u32 1116352408), .lit (.int .u32 1899447441), .lit (.int .u32 3049323471), .lit (.int .u32 3921009573), .lit (.int .u32 961987163), .lit (.int .u32 1508970993), .lit (.int .u32 2453635748), .lit (.int .u32 2870763221), .lit (.int .u32 3624381080), .lit (.int .u32 310598401), .lit (.int .u32 607225278), .lit (.int .u32 1426881987), .lit (.int .u32 1925078388), .lit (.int .u32 2162078206), .lit (.int .u32 2614888103), .lit (.int .u32 3248222580), .lit (.int .u32 3835390401), .lit (.int .u32 4022224774), .lit (.int .u32 264347078), .lit (.int .u32 604807628), .lit (.int .u32 770255983), .lit (.int .u32 1249150122), .lit (.int .u32 1555081692), .lit (.int .u32 1996064986), .lit (.int .u32 2554220882), .lit (.int .u32 2821834349), .lit (.int .u32 2952996808), .lit (.int .u32 3210313671), .lit (.int .u32 3336571891), .lit (.int .u32 3584528711), .lit (.int .u32 113926993), .lit (.int .u32 338241895), .lit (.int .u32 666307205), .lit (.int .u32 773529912), .lit (.int .u32 1294757372), .lit (.int .u32 1396182291), .lit (.int .u32 1695183700), .lit (.int .u32 1986661051), .lit (.int .u32 2177026350), .lit (.int .u32 2456956037), .lit (.int .u32 2730485921), .lit (.int .u32 2820302411), .lit (.int .u32 3259730800), .lit (.int .u32 3345764771), .lit (.int .u32 3516065817), .lit (.int .u32 3600352804), .lit (.int .u32 4094571909), .lit (.int .u32 275423344), .lit (.int .u32 430227734), .lit (.int .u32 506948616), .lit (.int .u32 659060556), .lit (.int .u32 883997877), .lit (.int .u32 958139571), .lit (.int .u32 1322822218), .lit (.int .u32 1537002063), .lit (.int .u32 1747873779), .lit (.int .u32 1955562222), .lit (.int .u32 2024104815), .lit (.int .u32 2227730452), .lit (.int .u32 2361852424), .lit (.int .u32 2428436474), .lit (.int .u32 2756734187), .lit (.int .u32 3204031479), .lit (.int .u32 3329325298)]
def laid_cryptex_sha_begin {H : Type} : DataW H := .agg [.lit (.int .u32 1779033703), .lit (.int .u32 3144134277), .lit (.int .u32 1013904242), .lit (.int .u32 2773480762), .lit (.int .u32 1359893119), .lit (.int .u32 2600822924), .lit (.int .u32 528734635), .lit (.int .u32 1541459225)]

/-- 'cryptexlaw02.ShaSums': WHATEVER THE INPUT: true; the input reads as it did. -/
def shaSumsSpec : ChangeSpec := { name := "shaSums", fn := fun _ => fun
  | [d1, d2, d3] => { results := [.lit (.bool true)], args := [d1, d2, d3] }
  | _ => none }
def shaSumsRow : OpenClaim := { program := "ytlegohnjbkgclaadoor", sum := "68de540c8aa766d9bb26ab8b354558f9161b6ac5d658446f344afaaf3911c635", func := "cryptex/cryptexlaw02.ShaSums", spec := "shaSums", inPlace := ["internal/bytealg.IndexByteString", "internal/abi.NoEscape", "internal/bytealg.MakeNoZero"], unfollowed := true, recurses := true, named := ["cryptex/sha.begin", "cryptex/sha.ks"], apart := false, laid := [("cryptex/sha.ks", laid_cryptex_sha_ks), ("cryptex/sha.begin", laid_cryptex_sha_begin)] }
def ShaSumsSaid : Prop := shaSumsRow.holds Tryd.pinned (OpenSpec.ofChange shaSumsSpec)

/-- ITS FALSE NEIGHBOUR: 'it returns false'. Refute it at one input. -/
def shaSumsWrong : ChangeSpec := { name := "shaSums", fn := fun _ => fun
  | [d1, d2, d3] => { results := [.lit (.bool false)], args := [d1, d2, d3] }
  | _ => none }
def ShaSumsWrongFalsely : Prop := shaSumsRow.holds Tryd.pinned (OpenSpec.ofChange shaSumsWrong)

/-- 'cryptexlaw02.ShaParts': WHATEVER THE INPUT: true; the input reads as it did. -/
def shaPartsSpec : ChangeSpec := { name := "shaParts", fn := fun _ => fun
  | [d1, d2] => { results := [.lit (.bool true)], args := [d1, d2] }
  | _ => none }
def shaPartsRow : OpenClaim := { program := "ytlegohnjbkgclaadoor", sum := "68de540c8aa766d9bb26ab8b354558f9161b6ac5d658446f344afaaf3911c635", func := "cryptex/cryptexlaw02.ShaParts", spec := "shaParts", inPlace := ["internal/bytealg.IndexByteString", "internal/abi.NoEscape", "internal/bytealg.MakeNoZero"], unfollowed := true, recurses := true, named := ["cryptex/sha.begin", "cryptex/sha.ks"], apart := false, laid := [("cryptex/sha.ks", laid_cryptex_sha_ks), ("cryptex/sha.begin", laid_cryptex_sha_begin)] }
def ShaPartsSaid : Prop := shaPartsRow.holds Tryd.pinned (OpenSpec.ofChange shaPartsSpec)

/-- ITS FALSE NEIGHBOUR: 'it returns false'. Refute it at one input. -/
def shaPartsWrong : ChangeSpec := { name := "shaParts", fn := fun _ => fun
  | [d1, d2] => { results := [.lit (.bool false)], args := [d1, d2] }
  | _ => none }
def ShaPartsWrongFalsely : Prop := shaPartsRow.holds Tryd.pinned (OpenSpec.ofChange shaPartsWrong)

/-- 'cryptexlaw02.ShaClones': WHATEVER THE INPUT: true; the input reads as it did. -/
def shaClonesSpec : ChangeSpec := { name := "shaClones", fn := fun _ => fun
  | [d1, d2, d3] => { results := [.lit (.bool true)], args := [d1, d2, d3] }
  | _ => none }
def shaClonesRow : OpenClaim := { program := "ytlegohnjbkgclaadoor", sum := "68de540c8aa766d9bb26ab8b354558f9161b6ac5d658446f344afaaf3911c635", func := "cryptex/cryptexlaw02.ShaClones", spec := "shaClones", inPlace := ["internal/bytealg.IndexByteString", "internal/abi.NoEscape", "internal/bytealg.MakeNoZero"], unfollowed := true, recurses := true, named := ["cryptex/sha.begin", "cryptex/sha.ks"], apart := false, laid := [("cryptex/sha.ks", laid_cryptex_sha_ks), ("cryptex/sha.begin", laid_cryptex_sha_begin)] }
def ShaClonesSaid : Prop := shaClonesRow.holds Tryd.pinned (OpenSpec.ofChange shaClonesSpec)

/-- ITS FALSE NEIGHBOUR: 'it returns false'. Refute it at one input. -/
def shaClonesWrong : ChangeSpec := { name := "shaClones", fn := fun _ => fun
  | [d1, d2, d3] => { results := [.lit (.bool false)], args := [d1, d2, d3] }
  | _ => none }
def ShaClonesWrongFalsely : Prop := shaClonesRow.holds Tryd.pinned (OpenSpec.ofChange shaClonesWrong)

/-- 'cryptexlaw02.ShaPads': WHATEVER THE INPUT: true; the input reads as it did. -/
def shaPadsSpec : ChangeSpec := { name := "shaPads", fn := fun _ => fun
  | [d1, d2] => { results := [.lit (.bool true)], args := [d1, d2] }
  | _ => none }
def shaPadsRow : OpenClaim := { program := "ytlegohnjbkgclaadoor", sum := "68de540c8aa766d9bb26ab8b354558f9161b6ac5d658446f344afaaf3911c635", func := "cryptex/cryptexlaw02.ShaPads", spec := "shaPads", inPlace := ["internal/bytealg.IndexByteString", "internal/abi.NoEscape", "internal/bytealg.MakeNoZero"], unfollowed := true, recurses := true, named := ["cryptex/sha.begin", "cryptex/sha.ks"], apart := false, laid := [("cryptex/sha.ks", laid_cryptex_sha_ks), ("cryptex/sha.begin", laid_cryptex_sha_begin)] }
def ShaPadsSaid : Prop := shaPadsRow.holds Tryd.pinned (OpenSpec.ofChange shaPadsSpec)

/-- ITS FALSE NEIGHBOUR: 'it returns false'. Refute it at one input. -/
def shaPadsWrong : ChangeSpec := { name := "shaPads", fn := fun _ => fun
  | [d1, d2] => { results := [.lit (.bool false)], args := [d1, d2] }
  | _ => none }
def ShaPadsWrongFalsely : Prop := shaPadsRow.holds Tryd.pinned (OpenSpec.ofChange shaPadsWrong)

/-- 'cryptexlaw02.ShaHexes': WHATEVER THE INPUT: true; the input reads as it did. -/
def shaHexesSpec : ChangeSpec := { name := "shaHexes", fn := fun _ => fun
  | [d1, d2] => { results := [.lit (.bool true)], args := [d1, d2] }
  | _ => none }
def shaHexesRow : OpenClaim := { program := "ytlegohnjbkgclaadoor", sum := "68de540c8aa766d9bb26ab8b354558f9161b6ac5d658446f344afaaf3911c635", func := "cryptex/cryptexlaw02.ShaHexes", spec := "shaHexes", inPlace := ["internal/bytealg.IndexByteString", "internal/abi.NoEscape", "internal/bytealg.MakeNoZero"], unfollowed := true, recurses := true, named := ["cryptex/sha.begin", "cryptex/sha.ks"], apart := false, laid := [("cryptex/sha.ks", laid_cryptex_sha_ks), ("cryptex/sha.begin", laid_cryptex_sha_begin)] }
def ShaHexesSaid : Prop := shaHexesRow.holds Tryd.pinned (OpenSpec.ofChange shaHexesSpec)

/-- ITS FALSE NEIGHBOUR: 'it returns false'. Refute it at one input. -/
def shaHexesWrong : ChangeSpec := { name := "shaHexes", fn := fun _ => fun
  | [d1, d2] => { results := [.lit (.bool false)], args := [d1, d2] }
  | _ => none }
def ShaHexesWrongFalsely : Prop := shaHexesRow.holds Tryd.pinned (OpenSpec.ofChange shaHexesWrong)

/-- 'cryptexlaw02.ShaSizes': WHATEVER THE INPUT: true; the input reads as it did. -/
def shaSizesSpec : ChangeSpec := { name := "shaSizes", fn := fun _ => fun
  | [d] => { results := [.lit (.bool true)], args := [d] }
  | _ => none }
def shaSizesRow : OpenClaim := { program := "ytlegohnjbkgclaadoor", sum := "68de540c8aa766d9bb26ab8b354558f9161b6ac5d658446f344afaaf3911c635", func := "cryptex/cryptexlaw02.ShaSizes", spec := "shaSizes", inPlace := ["internal/bytealg.IndexByteString", "internal/abi.NoEscape", "internal/bytealg.MakeNoZero"], unfollowed := true, recurses := true, named := ["cryptex/sha.begin", "cryptex/sha.ks"], apart := false, laid := [("cryptex/sha.ks", laid_cryptex_sha_ks), ("cryptex/sha.begin", laid_cryptex_sha_begin)] }
def ShaSizesSaid : Prop := shaSizesRow.holds Tryd.pinned (OpenSpec.ofChange shaSizesSpec)

/-- ITS FALSE NEIGHBOUR: 'it returns false'. Refute it at one input. -/
def shaSizesWrong : ChangeSpec := { name := "shaSizes", fn := fun _ => fun
  | [d] => { results := [.lit (.bool false)], args := [d] }
  | _ => none }
def ShaSizesWrongFalsely : Prop := shaSizesRow.holds Tryd.pinned (OpenSpec.ofChange shaSizesWrong)

/-- 'cryptexlaw03.MacOf': WHATEVER THE INPUT: true; the input reads as it did. -/
def macOfSpec : ChangeSpec := { name := "macOf", fn := fun _ => fun
  | [d1, d2, d3] => { results := [.lit (.bool true)], args := [d1, d2, d3] }
  | _ => none }
def macOfRow : OpenClaim := { program := "ytlegohnjbkgclaadoor", sum := "68de540c8aa766d9bb26ab8b354558f9161b6ac5d658446f344afaaf3911c635", func := "cryptex/cryptexlaw03.MacOf", spec := "macOf", inPlace := ["internal/abi.NoEscape", "internal/bytealg.MakeNoZero"], unfollowed := true, recurses := true, named := ["cryptex/sha.begin", "cryptex/sha.ks"], apart := false, laid := [("cryptex/sha.ks", laid_cryptex_sha_ks), ("cryptex/sha.begin", laid_cryptex_sha_begin)] }
def MacOfSaid : Prop := macOfRow.holds Tryd.pinned (OpenSpec.ofChange macOfSpec)

/-- ITS FALSE NEIGHBOUR: 'it returns false'. Refute it at one input. -/
def macOfWrong : ChangeSpec := { name := "macOf", fn := fun _ => fun
  | [d1, d2, d3] => { results := [.lit (.bool false)], args := [d1, d2, d3] }
  | _ => none }
def MacOfWrongFalsely : Prop := macOfRow.holds Tryd.pinned (OpenSpec.ofChange macOfWrong)

/-- 'cryptexlaw03.MacExpands': WHATEVER THE INPUT: true; the input reads as it did. -/
def macExpandsSpec : ChangeSpec := { name := "macExpands", fn := fun _ => fun
  | [d1, d2, d3, d4] => { results := [.lit (.bool true)], args := [d1, d2, d3, d4] }
  | _ => none }
def macExpandsRow : OpenClaim := { program := "ytlegohnjbkgclaadoor", sum := "68de540c8aa766d9bb26ab8b354558f9161b6ac5d658446f344afaaf3911c635", func := "cryptex/cryptexlaw03.MacExpands", spec := "macExpands", inPlace := ["internal/abi.NoEscape", "internal/bytealg.MakeNoZero"], unfollowed := true, recurses := true, named := ["cryptex/sha.begin", "cryptex/sha.ks"], apart := false, laid := [("cryptex/sha.ks", laid_cryptex_sha_ks), ("cryptex/sha.begin", laid_cryptex_sha_begin)] }
def MacExpandsSaid : Prop := macExpandsRow.holds Tryd.pinned (OpenSpec.ofChange macExpandsSpec)

/-- ITS FALSE NEIGHBOUR: 'it returns false'. Refute it at one input. -/
def macExpandsWrong : ChangeSpec := { name := "macExpands", fn := fun _ => fun
  | [d1, d2, d3, d4] => { results := [.lit (.bool false)], args := [d1, d2, d3, d4] }
  | _ => none }
def MacExpandsWrongFalsely : Prop := macExpandsRow.holds Tryd.pinned (OpenSpec.ofChange macExpandsWrong)

/-- 'cryptexlaw03.MacBegins': WHATEVER THE INPUT: true; the input reads as it did. -/
def macBeginsSpec : ChangeSpec := { name := "macBegins", fn := fun _ => fun
  | [d1, d2, d3, d4] => { results := [.lit (.bool true)], args := [d1, d2, d3, d4] }
  | _ => none }
def macBeginsRow : OpenClaim := { program := "ytlegohnjbkgclaadoor", sum := "68de540c8aa766d9bb26ab8b354558f9161b6ac5d658446f344afaaf3911c635", func := "cryptex/cryptexlaw03.MacBegins", spec := "macBegins", inPlace := ["internal/abi.NoEscape", "internal/bytealg.MakeNoZero"], unfollowed := true, recurses := true, named := ["cryptex/sha.begin", "cryptex/sha.ks"], apart := false, laid := [("cryptex/sha.ks", laid_cryptex_sha_ks), ("cryptex/sha.begin", laid_cryptex_sha_begin)] }
def MacBeginsSaid : Prop := macBeginsRow.holds Tryd.pinned (OpenSpec.ofChange macBeginsSpec)

/-- ITS FALSE NEIGHBOUR: 'it returns false'. Refute it at one input. -/
def macBeginsWrong : ChangeSpec := { name := "macBegins", fn := fun _ => fun
  | [d1, d2, d3, d4] => { results := [.lit (.bool false)], args := [d1, d2, d3, d4] }
  | _ => none }
def MacBeginsWrongFalsely : Prop := macBeginsRow.holds Tryd.pinned (OpenSpec.ofChange macBeginsWrong)

/-- 'cryptexlaw03.MacInfos': WHATEVER THE INPUT: true; the input reads as it did. -/
def macInfosSpec : ChangeSpec := { name := "macInfos", fn := fun _ => fun
  | [d1, d2] => { results := [.lit (.bool true)], args := [d1, d2] }
  | _ => none }
def macInfosRow : OpenClaim := { program := "ytlegohnjbkgclaadoor", sum := "68de540c8aa766d9bb26ab8b354558f9161b6ac5d658446f344afaaf3911c635", func := "cryptex/cryptexlaw03.MacInfos", spec := "macInfos", inPlace := ["internal/abi.NoEscape", "internal/bytealg.MakeNoZero"], unfollowed := true, recurses := true, named := ["cryptex/sha.begin", "cryptex/sha.ks"], apart := false, laid := [("cryptex/sha.ks", laid_cryptex_sha_ks), ("cryptex/sha.begin", laid_cryptex_sha_begin)] }
def MacInfosSaid : Prop := macInfosRow.holds Tryd.pinned (OpenSpec.ofChange macInfosSpec)

/-- ITS FALSE NEIGHBOUR: 'it returns false'. Refute it at one input. -/
def macInfosWrong : ChangeSpec := { name := "macInfos", fn := fun _ => fun
  | [d1, d2] => { results := [.lit (.bool false)], args := [d1, d2] }
  | _ => none }
def MacInfosWrongFalsely : Prop := macInfosRow.holds Tryd.pinned (OpenSpec.ofChange macInfosWrong)

/-- 'cryptexlaw03.MacKeys': WHATEVER THE INPUT: true; the input reads as it did. -/
def macKeysSpec : ChangeSpec := { name := "macKeys", fn := fun _ => fun
  | [d1, d2, d3] => { results := [.lit (.bool true)], args := [d1, d2, d3] }
  | _ => none }
def macKeysRow : OpenClaim := { program := "ytlegohnjbkgclaadoor", sum := "68de540c8aa766d9bb26ab8b354558f9161b6ac5d658446f344afaaf3911c635", func := "cryptex/cryptexlaw03.MacKeys", spec := "macKeys", inPlace := ["internal/abi.NoEscape", "internal/bytealg.MakeNoZero"], unfollowed := true, recurses := true, named := ["cryptex/sha.begin", "cryptex/sha.ks"], apart := false, laid := [("cryptex/sha.ks", laid_cryptex_sha_ks), ("cryptex/sha.begin", laid_cryptex_sha_begin)] }
def MacKeysSaid : Prop := macKeysRow.holds Tryd.pinned (OpenSpec.ofChange macKeysSpec)

/-- ITS FALSE NEIGHBOUR: 'it returns false'. Refute it at one input. -/
def macKeysWrong : ChangeSpec := { name := "macKeys", fn := fun _ => fun
  | [d1, d2, d3] => { results := [.lit (.bool false)], args := [d1, d2, d3] }
  | _ => none }
def MacKeysWrongFalsely : Prop := macKeysRow.holds Tryd.pinned (OpenSpec.ofChange macKeysWrong)

/-- 'cryptexlaw03.MacChecks': WHATEVER THE INPUT: true; the input reads as it did. -/
def macChecksSpec : ChangeSpec := { name := "macChecks", fn := fun _ => fun
  | [d1, d2, d3, d4] => { results := [.lit (.bool true)], args := [d1, d2, d3, d4] }
  | _ => none }
def macChecksRow : OpenClaim := { program := "ytlegohnjbkgclaadoor", sum := "68de540c8aa766d9bb26ab8b354558f9161b6ac5d658446f344afaaf3911c635", func := "cryptex/cryptexlaw03.MacChecks", spec := "macChecks", inPlace := ["internal/abi.NoEscape", "internal/bytealg.MakeNoZero"], unfollowed := true, recurses := true, named := ["cryptex/sha.begin", "cryptex/sha.ks"], apart := false, laid := [("cryptex/sha.ks", laid_cryptex_sha_ks), ("cryptex/sha.begin", laid_cryptex_sha_begin)] }
def MacChecksSaid : Prop := macChecksRow.holds Tryd.pinned (OpenSpec.ofChange macChecksSpec)

/-- ITS FALSE NEIGHBOUR: 'it returns false'. Refute it at one input. -/
def macChecksWrong : ChangeSpec := { name := "macChecks", fn := fun _ => fun
  | [d1, d2, d3, d4] => { results := [.lit (.bool false)], args := [d1, d2, d3, d4] }
  | _ => none }
def MacChecksWrongFalsely : Prop := macChecksRow.holds Tryd.pinned (OpenSpec.ofChange macChecksWrong)

/- THE SECOND FORM. 'bulk': how many values and letters a reading holds, each counted each time it is reached (what is shared counts as often as it is met; a slice's spare places count too). A statement '..UptoSaid' is the law's where the arguments, and the package variables that the reading takes, are together of bulk at most 1048576: NARROWER than '..Said'. Prove '..Said' where nothing that the law and all that it calls make is longer than what came in: it says more and counts as full. Else prove '..UptoSaid'. A law counts once. -/
mutual
def uptoBulk {H : Type} : DataW H → Nat
  | .lit (.string bytes) => bytes.length + 1
  | .lit _ => 1
  | .nil => 1
  | .ptr d => uptoBulk d + 1
  | .slice elems spare => uptoBulkAll elems + uptoBulkAll spare + 1
  | .agg parts => uptoBulkAll parts + 1
  | .iface _ d => uptoBulk d + 1
  | .map entries => uptoBulkEntries entries + 1
  | .held _ => 1
def uptoBulkAll {H : Type} : List (DataW H) → Nat
  | [] => 0
  | d :: r => uptoBulk d + uptoBulkAll r
def uptoBulkEntries {H : Type} : List (Lit × DataW H) → Nat
  | [] => 0
  | x :: r => uptoBulkEntry x + uptoBulkEntries r
def uptoBulkEntry {H : Type} : Lit × DataW H → Nat
  | (.string bytes, d) => bytes.length + uptoBulk d + 1
  | (_, d) => uptoBulk d + 1
 end
def uptoSmall : (H : Type) → List (DataW H) → Bool := fun _ ds => decide (uptoBulkAll ds ≤ 1048576)
def OpenSpec.upto (s : _root_.Go.ChangeSpec) : _root_.Go.OpenSpec := { _root_.Go.OpenSpec.ofChange s with cond := some uptoSmall }

/-- 'cryptexlaw02.ShaSums', WHERE WHAT IT READS IS OF BULK AT MOST 1048576: true; the input reads as it did. -/
def shaSumsUptoRow : OpenClaim := { program := "ytlegohnjbkgclaadoor", sum := "68de540c8aa766d9bb26ab8b354558f9161b6ac5d658446f344afaaf3911c635", func := "cryptex/cryptexlaw02.ShaSums", spec := "shaSums", inPlace := ["internal/bytealg.IndexByteString", "internal/abi.NoEscape", "internal/bytealg.MakeNoZero"], unfollowed := true, recurses := true, named := ["cryptex/sha.begin", "cryptex/sha.ks"], apart := false, laid := [("cryptex/sha.ks", laid_cryptex_sha_ks), ("cryptex/sha.begin", laid_cryptex_sha_begin)], narrowed := true }
def ShaSumsUptoSaid : Prop := shaSumsUptoRow.holds Tryd.pinned (OpenSpec.upto shaSumsSpec)

/-- 'cryptexlaw02.ShaParts', WHERE WHAT IT READS IS OF BULK AT MOST 1048576: true; the input reads as it did. -/
def shaPartsUptoRow : OpenClaim := { program := "ytlegohnjbkgclaadoor", sum := "68de540c8aa766d9bb26ab8b354558f9161b6ac5d658446f344afaaf3911c635", func := "cryptex/cryptexlaw02.ShaParts", spec := "shaParts", inPlace := ["internal/bytealg.IndexByteString", "internal/abi.NoEscape", "internal/bytealg.MakeNoZero"], unfollowed := true, recurses := true, named := ["cryptex/sha.begin", "cryptex/sha.ks"], apart := false, laid := [("cryptex/sha.ks", laid_cryptex_sha_ks), ("cryptex/sha.begin", laid_cryptex_sha_begin)], narrowed := true }
def ShaPartsUptoSaid : Prop := shaPartsUptoRow.holds Tryd.pinned (OpenSpec.upto shaPartsSpec)

/-- 'cryptexlaw02.ShaClones', WHERE WHAT IT READS IS OF BULK AT MOST 1048576: true; the input reads as it did. -/
def shaClonesUptoRow : OpenClaim := { program := "ytlegohnjbkgclaadoor", sum := "68de540c8aa766d9bb26ab8b354558f9161b6ac5d658446f344afaaf3911c635", func := "cryptex/cryptexlaw02.ShaClones", spec := "shaClones", inPlace := ["internal/bytealg.IndexByteString", "internal/abi.NoEscape", "internal/bytealg.MakeNoZero"], unfollowed := true, recurses := true, named := ["cryptex/sha.begin", "cryptex/sha.ks"], apart := false, laid := [("cryptex/sha.ks", laid_cryptex_sha_ks), ("cryptex/sha.begin", laid_cryptex_sha_begin)], narrowed := true }
def ShaClonesUptoSaid : Prop := shaClonesUptoRow.holds Tryd.pinned (OpenSpec.upto shaClonesSpec)

/-- 'cryptexlaw02.ShaPads', WHERE WHAT IT READS IS OF BULK AT MOST 1048576: true; the input reads as it did. -/
def shaPadsUptoRow : OpenClaim := { program := "ytlegohnjbkgclaadoor", sum := "68de540c8aa766d9bb26ab8b354558f9161b6ac5d658446f344afaaf3911c635", func := "cryptex/cryptexlaw02.ShaPads", spec := "shaPads", inPlace := ["internal/bytealg.IndexByteString", "internal/abi.NoEscape", "internal/bytealg.MakeNoZero"], unfollowed := true, recurses := true, named := ["cryptex/sha.begin", "cryptex/sha.ks"], apart := false, laid := [("cryptex/sha.ks", laid_cryptex_sha_ks), ("cryptex/sha.begin", laid_cryptex_sha_begin)], narrowed := true }
def ShaPadsUptoSaid : Prop := shaPadsUptoRow.holds Tryd.pinned (OpenSpec.upto shaPadsSpec)

/-- 'cryptexlaw02.ShaHexes', WHERE WHAT IT READS IS OF BULK AT MOST 1048576: true; the input reads as it did. -/
def shaHexesUptoRow : OpenClaim := { program := "ytlegohnjbkgclaadoor", sum := "68de540c8aa766d9bb26ab8b354558f9161b6ac5d658446f344afaaf3911c635", func := "cryptex/cryptexlaw02.ShaHexes", spec := "shaHexes", inPlace := ["internal/bytealg.IndexByteString", "internal/abi.NoEscape", "internal/bytealg.MakeNoZero"], unfollowed := true, recurses := true, named := ["cryptex/sha.begin", "cryptex/sha.ks"], apart := false, laid := [("cryptex/sha.ks", laid_cryptex_sha_ks), ("cryptex/sha.begin", laid_cryptex_sha_begin)], narrowed := true }
def ShaHexesUptoSaid : Prop := shaHexesUptoRow.holds Tryd.pinned (OpenSpec.upto shaHexesSpec)

/-- 'cryptexlaw02.ShaSizes', WHERE WHAT IT READS IS OF BULK AT MOST 1048576: true; the input reads as it did. -/
def shaSizesUptoRow : OpenClaim := { program := "ytlegohnjbkgclaadoor", sum := "68de540c8aa766d9bb26ab8b354558f9161b6ac5d658446f344afaaf3911c635", func := "cryptex/cryptexlaw02.ShaSizes", spec := "shaSizes", inPlace := ["internal/bytealg.IndexByteString", "internal/abi.NoEscape", "internal/bytealg.MakeNoZero"], unfollowed := true, recurses := true, named := ["cryptex/sha.begin", "cryptex/sha.ks"], apart := false, laid := [("cryptex/sha.ks", laid_cryptex_sha_ks), ("cryptex/sha.begin", laid_cryptex_sha_begin)], narrowed := true }
def ShaSizesUptoSaid : Prop := shaSizesUptoRow.holds Tryd.pinned (OpenSpec.upto shaSizesSpec)

/-- 'cryptexlaw03.MacOf', WHERE WHAT IT READS IS OF BULK AT MOST 1048576: true; the input reads as it did. -/
def macOfUptoRow : OpenClaim := { program := "ytlegohnjbkgclaadoor", sum := "68de540c8aa766d9bb26ab8b354558f9161b6ac5d658446f344afaaf3911c635", func := "cryptex/cryptexlaw03.MacOf", spec := "macOf", inPlace := ["internal/abi.NoEscape", "internal/bytealg.MakeNoZero"], unfollowed := true, recurses := true, named := ["cryptex/sha.begin", "cryptex/sha.ks"], apart := false, laid := [("cryptex/sha.ks", laid_cryptex_sha_ks), ("cryptex/sha.begin", laid_cryptex_sha_begin)], narrowed := true }
def MacOfUptoSaid : Prop := macOfUptoRow.holds Tryd.pinned (OpenSpec.upto macOfSpec)

/-- 'cryptexlaw03.MacExpands', WHERE WHAT IT READS IS OF BULK AT MOST 1048576: true; the input reads as it did. -/
def macExpandsUptoRow : OpenClaim := { program := "ytlegohnjbkgclaadoor", sum := "68de540c8aa766d9bb26ab8b354558f9161b6ac5d658446f344afaaf3911c635", func := "cryptex/cryptexlaw03.MacExpands", spec := "macExpands", inPlace := ["internal/abi.NoEscape", "internal/bytealg.MakeNoZero"], unfollowed := true, recurses := true, named := ["cryptex/sha.begin", "cryptex/sha.ks"], apart := false, laid := [("cryptex/sha.ks", laid_cryptex_sha_ks), ("cryptex/sha.begin", laid_cryptex_sha_begin)], narrowed := true }
def MacExpandsUptoSaid : Prop := macExpandsUptoRow.holds Tryd.pinned (OpenSpec.upto macExpandsSpec)

/-- 'cryptexlaw03.MacBegins', WHERE WHAT IT READS IS OF BULK AT MOST 1048576: true; the input reads as it did. -/
def macBeginsUptoRow : OpenClaim := { program := "ytlegohnjbkgclaadoor", sum := "68de540c8aa766d9bb26ab8b354558f9161b6ac5d658446f344afaaf3911c635", func := "cryptex/cryptexlaw03.MacBegins", spec := "macBegins", inPlace := ["internal/abi.NoEscape", "internal/bytealg.MakeNoZero"], unfollowed := true, recurses := true, named := ["cryptex/sha.begin", "cryptex/sha.ks"], apart := false, laid := [("cryptex/sha.ks", laid_cryptex_sha_ks), ("cryptex/sha.begin", laid_cryptex_sha_begin)], narrowed := true }
def MacBeginsUptoSaid : Prop := macBeginsUptoRow.holds Tryd.pinned (OpenSpec.upto macBeginsSpec)

/-- 'cryptexlaw03.MacInfos', WHERE WHAT IT READS IS OF BULK AT MOST 1048576: true; the input reads as it did. -/
def macInfosUptoRow : OpenClaim := { program := "ytlegohnjbkgclaadoor", sum := "68de540c8aa766d9bb26ab8b354558f9161b6ac5d658446f344afaaf3911c635", func := "cryptex/cryptexlaw03.MacInfos", spec := "macInfos", inPlace := ["internal/abi.NoEscape", "internal/bytealg.MakeNoZero"], unfollowed := true, recurses := true, named := ["cryptex/sha.begin", "cryptex/sha.ks"], apart := false, laid := [("cryptex/sha.ks", laid_cryptex_sha_ks), ("cryptex/sha.begin", laid_cryptex_sha_begin)], narrowed := true }
def MacInfosUptoSaid : Prop := macInfosUptoRow.holds Tryd.pinned (OpenSpec.upto macInfosSpec)

/-- 'cryptexlaw03.MacKeys', WHERE WHAT IT READS IS OF BULK AT MOST 1048576: true; the input reads as it did. -/
def macKeysUptoRow : OpenClaim := { program := "ytlegohnjbkgclaadoor", sum := "68de540c8aa766d9bb26ab8b354558f9161b6ac5d658446f344afaaf3911c635", func := "cryptex/cryptexlaw03.MacKeys", spec := "macKeys", inPlace := ["internal/abi.NoEscape", "internal/bytealg.MakeNoZero"], unfollowed := true, recurses := true, named := ["cryptex/sha.begin", "cryptex/sha.ks"], apart := false, laid := [("cryptex/sha.ks", laid_cryptex_sha_ks), ("cryptex/sha.begin", laid_cryptex_sha_begin)], narrowed := true }
def MacKeysUptoSaid : Prop := macKeysUptoRow.holds Tryd.pinned (OpenSpec.upto macKeysSpec)

/-- 'cryptexlaw03.MacChecks', WHERE WHAT IT READS IS OF BULK AT MOST 1048576: true; the input reads as it did. -/
def macChecksUptoRow : OpenClaim := { program := "ytlegohnjbkgclaadoor", sum := "68de540c8aa766d9bb26ab8b354558f9161b6ac5d658446f344afaaf3911c635", func := "cryptex/cryptexlaw03.MacChecks", spec := "macChecks", inPlace := ["internal/abi.NoEscape", "internal/bytealg.MakeNoZero"], unfollowed := true, recurses := true, named := ["cryptex/sha.begin", "cryptex/sha.ks"], apart := false, laid := [("cryptex/sha.ks", laid_cryptex_sha_ks), ("cryptex/sha.begin", laid_cryptex_sha_begin)], narrowed := true }
def MacChecksUptoSaid : Prop := macChecksUptoRow.holds Tryd.pinned (OpenSpec.upto macChecksSpec)

end Rows
end Go.Proofs.YtlegohnjbkgclaaDoor
