/-
  NARROWER THAN 'FOR EVERY INPUT', by the rows' own cells (each row's printed sentence says how): WorldStops: laid · WorldLabels: laid · WorldDeeds: laid · WorldHeld: laid · WorldAlone: laid · WorldSpots: laid · WorldWays: laid · WorldPromises: laid.
  DERIVED. THE GIVEN ROWS OF THIS SEAT. 8 by the template 'for every input the law returns true; each argument reads behind the call as it read before'; 0 by the template 'total and deterministic' (their statements: YtpeaiphdkgifaaaGreatDoorTotals.lean).
  GIVEN WITH THE SEED: the statements are not yours to turn. If you find one false, say at which input.
  Laid BY PROGRAM, IN A SANDBOX (cutbox-rows.mjs): the forced cells as the released guide's own fill.sh prints them over the translation af9388491da1445a… (all of the seat's roots in one cut). By AI agents, Wed Nov 11 2026. No macro, syntax, notation, axiom, sorry.
-/
import Derived.Test.YtpeaiphdkgifaaaGreatDoorChecked
import GoSem.Claim
import GoSem.ClaimJoined
import GoSem.ClaimMapViews
import Derived.JoinedTies
import Derived.KernelRfl
namespace Go.Proofs.YtpeaiphdkgifaaaGreatDoor
/- THE CELL 'sum', in the pinned program and in every row, IS THE sha256 OF THE DUMP (.gsa) THAT YtpeaiphdkgifaaaGreatDoorProg.lean LOADS. Nothing in Lean hashes anything: it is a label: what it is worth is what the hold of that sum in a sandbox is worth. -/
noncomputable def Tryz.pinned : Pinned := { name := "ytpeaiphdkgifaaagreatdoor", sum := "af9388491da1445a88b12748c666a0a56a716930df812a881fd9509c721e62ac", checked := Tryz.checked }
namespace Rows
def none {H : Type} : Left H := { results := [], args := [] }

/- WHAT THE LISTED PACKAGE-LEVEL VARIABLES READ AS WHEN THE CALL BEGINS. Each datum BY PROGRAM (the guide's laid-datum.mjs) off the statement by which the dump's own 'gosem.cut.vars' lays the variable. In a bare row this is a premise. The card (YtpeaiphdkgifaaaGreatDoorCards.lean) ties it to the program's text. -/
def laid_math_bits_deBruijn32tab {H : Type} : DataW H := .agg [.lit (.int .u8 0), .lit (.int .u8 1), .lit (.int .u8 28), .lit (.int .u8 2), .lit (.int .u8 29), .lit (.int .u8 14), .lit (.int .u8 24), .lit (.int .u8 3), .lit (.int .u8 30), .lit (.int .u8 22), .lit (.int .u8 20), .lit (.int .u8 15), .lit (.int .u8 25), .lit (.int .u8 17), .lit (.int .u8 4), .lit (.int .u8 8), .lit (.int .u8 31), .lit (.int .u8 27), .lit (.int .u8 13), .lit (.int .u8 23), .lit (.int .u8 21), .lit (.int .u8 19), .lit (.int .u8 16), .lit (.int .u8 7), .lit (.int .u8 26), .lit (.int .u8 12), .lit (.int .u8 18), .lit (.int .u8 6), .lit (.int .u8 11), .lit (.int .u8 5), .lit (.int .u8 10), .lit (.int .u8 9)]
def laid_math_bits_deBruijn64tab {H : Type} : DataW H := .agg [.lit (.int .u8 0), .lit (.int .u8 1), .lit (.int .u8 56), .lit (.int .u8 2), .lit (.int .u8 57), .lit (.int .u8 49), .lit (.int .u8 28), .lit (.int .u8 3), .lit (.int .u8 61), .lit (.int .u8 58), .lit (.int .u8 42), .lit (.int .u8 50), .lit (.int .u8 38), .lit (.int .u8 29), .lit (.int .u8 17), .lit (.int .u8 4), .lit (.int .u8 62), .lit (.int .u8 47), .lit (.int .u8 59), .lit (.int .u8 36), .lit (.int .u8 45), .lit (.int .u8 43), .lit (.int .u8 51), .lit (.int .u8 22), .lit (.int .u8 53), .lit (.int .u8 39), .lit (.int .u8 33), .lit (.int .u8 30), .lit (.int .u8 24), .lit (.int .u8 18), .lit (.int .u8 12), .lit (.int .u8 5), .lit (.int .u8 63), .lit (.int .u8 55), .lit (.int .u8 48), .lit (.int .u8 27), .lit (.int .u8 60), .lit (.int .u8 41), .lit (.int .u8 37), .lit (.int .u8 16), .lit (.int .u8 46), .lit (.int .u8 35), .lit (.int .u8 44), .lit (.int .u8 21), .lit (.int .u8 52), .lit (.int .u8 32), .lit (.int .u8 23), .lit (.int .u8 11), .lit (.int .u8 54), .lit (.int .u8 26), .lit (.int .u8 40), .lit (.int .u8 15), .lit (.int .u8 34), .lit (.int .u8 20), .lit (.int .u8 31), .lit (.int .u8 10), .lit (.int .u8 25), .lit (.int .u8 14), .lit (.int .u8 19), .lit (.int .u8 9), .lit (.int .u8 13), .lit (.int .u8 8), .lit (.int .u8 7), .lit (.int .u8 6)]
def laid_internal_strconv_uint64pow10 {H : Type} : DataW H := .agg [.lit (.int .u64 1), .lit (.int .u64 10), .lit (.int .u64 100), .lit (.int .u64 1000), .lit (.int .u64 10000), .lit (.int .u64 100000), .lit (.int .u64 1000000), .lit (.int .u64 10000000), .lit (.int .u64 100000000), .lit (.int .u64 1000000000), .lit (.int .u64 10000000000), .lit (.int .u64 100000000000), .lit (.int .u64 1000000000000), .lit (.int .u64 10000000000000), .lit (.int .u64 100000000000000), .lit (.int .u64 1000000000000000), .lit (.int .u64 10000000000000000), .lit (.int .u64 100000000000000000), .lit (.int .u64 1000000000000000000), .lit (.int .u64 10000000000000000000)]
def laid_postilion_survey_keyWords {H : Type} : DataW H := .agg [.lit (.string [99, 97, 108, 101, 110, 100, 97, 114]), .lit (.string [111, 112, 101, 114, 97, 116, 111, 114]), .lit (.string [111, 102, 102, 105, 99, 101]), .lit (.string [108, 105, 110, 101]), .lit (.string [99, 108, 97, 115, 115]), .lit (.string [122, 111, 110, 101]), .lit (.string [119, 101, 101, 107]), .lit (.string [104, 111, 108, 105, 100, 97, 121]), .lit (.string [112, 111, 99, 107, 101, 116, 115]), .lit (.string [112, 97, 115, 115, 101, 115]), .lit (.string [109, 105, 110, 117, 116, 101, 115]), .lit (.string [99, 111, 100, 101, 115]), .lit (.string [97, 116]), .lit (.string [116, 114, 97, 118, 101, 108]), .lit (.string [108, 111, 97, 100]), .lit (.string [99, 117, 116]), .lit (.string [100, 101, 108, 105, 118, 101, 114])]

/-- 'postilionlaw22.WorldStops': WHATEVER THE INPUT: true; the input reads as it did. -/
def worldStopsSpec : ChangeSpec := { name := "worldStops", fn := fun _ => fun
  | [d1, d2, d3] => { results := [.lit (.bool true)], args := [d1, d2, d3] }
  | _ => none }
def worldStopsRow : OpenClaim := { program := "ytpeaiphdkgifaaagreatdoor", sum := "af9388491da1445a88b12748c666a0a56a716930df812a881fd9509c721e62ac", func := "postilion/postilionlaw22.WorldStops", spec := "worldStops", inPlace := ["internal/abi.NoEscape", "internal/bytealg.MakeNoZero"], unfollowed := true, recurses := true, named := ["postilion/survey.keyWords", "internal/strconv.uint64pow10", "math/bits.deBruijn32tab", "math/bits.deBruijn64tab"], apart := false, laid := [("math/bits.deBruijn32tab", laid_math_bits_deBruijn32tab), ("math/bits.deBruijn64tab", laid_math_bits_deBruijn64tab), ("internal/strconv.uint64pow10", laid_internal_strconv_uint64pow10), ("postilion/survey.keyWords", laid_postilion_survey_keyWords)] }
def WorldStopsSaid : Prop := worldStopsRow.holds Tryz.pinned (OpenSpec.ofChange worldStopsSpec)

/-- ITS FALSE NEIGHBOUR: 'it returns false'. Refute it at one input. -/
def worldStopsWrong : ChangeSpec := { name := "worldStops", fn := fun _ => fun
  | [d1, d2, d3] => { results := [.lit (.bool false)], args := [d1, d2, d3] }
  | _ => none }
def WorldStopsWrongFalsely : Prop := worldStopsRow.holds Tryz.pinned (OpenSpec.ofChange worldStopsWrong)

/-- 'postilionlaw22.WorldLabels': WHATEVER THE INPUT: true; the input reads as it did. -/
def worldLabelsSpec : ChangeSpec := { name := "worldLabels", fn := fun _ => fun
  | [d1, d2, d3, d4] => { results := [.lit (.bool true)], args := [d1, d2, d3, d4] }
  | _ => none }
def worldLabelsRow : OpenClaim := { program := "ytpeaiphdkgifaaagreatdoor", sum := "af9388491da1445a88b12748c666a0a56a716930df812a881fd9509c721e62ac", func := "postilion/postilionlaw22.WorldLabels", spec := "worldLabels", inPlace := ["internal/abi.NoEscape", "internal/bytealg.MakeNoZero"], unfollowed := true, recurses := true, named := ["postilion/survey.keyWords", "internal/strconv.uint64pow10", "math/bits.deBruijn32tab", "math/bits.deBruijn64tab"], apart := false, laid := [("math/bits.deBruijn32tab", laid_math_bits_deBruijn32tab), ("math/bits.deBruijn64tab", laid_math_bits_deBruijn64tab), ("internal/strconv.uint64pow10", laid_internal_strconv_uint64pow10), ("postilion/survey.keyWords", laid_postilion_survey_keyWords)] }
def WorldLabelsSaid : Prop := worldLabelsRow.holds Tryz.pinned (OpenSpec.ofChange worldLabelsSpec)

/-- ITS FALSE NEIGHBOUR: 'it returns false'. Refute it at one input. -/
def worldLabelsWrong : ChangeSpec := { name := "worldLabels", fn := fun _ => fun
  | [d1, d2, d3, d4] => { results := [.lit (.bool false)], args := [d1, d2, d3, d4] }
  | _ => none }
def WorldLabelsWrongFalsely : Prop := worldLabelsRow.holds Tryz.pinned (OpenSpec.ofChange worldLabelsWrong)

/-- 'postilionlaw22.WorldDeeds': WHATEVER THE INPUT: true; the input reads as it did. -/
def worldDeedsSpec : ChangeSpec := { name := "worldDeeds", fn := fun _ => fun
  | [d1, d2, d3, d4] => { results := [.lit (.bool true)], args := [d1, d2, d3, d4] }
  | _ => none }
def worldDeedsRow : OpenClaim := { program := "ytpeaiphdkgifaaagreatdoor", sum := "af9388491da1445a88b12748c666a0a56a716930df812a881fd9509c721e62ac", func := "postilion/postilionlaw22.WorldDeeds", spec := "worldDeeds", inPlace := ["internal/abi.NoEscape", "internal/bytealg.MakeNoZero"], unfollowed := true, recurses := true, named := ["postilion/survey.keyWords", "internal/strconv.uint64pow10", "math/bits.deBruijn32tab", "math/bits.deBruijn64tab"], apart := false, laid := [("math/bits.deBruijn32tab", laid_math_bits_deBruijn32tab), ("math/bits.deBruijn64tab", laid_math_bits_deBruijn64tab), ("internal/strconv.uint64pow10", laid_internal_strconv_uint64pow10), ("postilion/survey.keyWords", laid_postilion_survey_keyWords)] }
def WorldDeedsSaid : Prop := worldDeedsRow.holds Tryz.pinned (OpenSpec.ofChange worldDeedsSpec)

/-- ITS FALSE NEIGHBOUR: 'it returns false'. Refute it at one input. -/
def worldDeedsWrong : ChangeSpec := { name := "worldDeeds", fn := fun _ => fun
  | [d1, d2, d3, d4] => { results := [.lit (.bool false)], args := [d1, d2, d3, d4] }
  | _ => none }
def WorldDeedsWrongFalsely : Prop := worldDeedsRow.holds Tryz.pinned (OpenSpec.ofChange worldDeedsWrong)

/-- 'postilionlaw22.WorldHeld': WHATEVER THE INPUT: true; the input reads as it did. -/
def worldHeldSpec : ChangeSpec := { name := "worldHeld", fn := fun _ => fun
  | [d1, d2, d3, d4] => { results := [.lit (.bool true)], args := [d1, d2, d3, d4] }
  | _ => none }
def worldHeldRow : OpenClaim := { program := "ytpeaiphdkgifaaagreatdoor", sum := "af9388491da1445a88b12748c666a0a56a716930df812a881fd9509c721e62ac", func := "postilion/postilionlaw22.WorldHeld", spec := "worldHeld", inPlace := ["internal/abi.NoEscape", "internal/bytealg.MakeNoZero"], unfollowed := true, recurses := true, named := ["postilion/survey.keyWords", "internal/strconv.uint64pow10", "math/bits.deBruijn32tab", "math/bits.deBruijn64tab"], apart := false, laid := [("math/bits.deBruijn32tab", laid_math_bits_deBruijn32tab), ("math/bits.deBruijn64tab", laid_math_bits_deBruijn64tab), ("internal/strconv.uint64pow10", laid_internal_strconv_uint64pow10), ("postilion/survey.keyWords", laid_postilion_survey_keyWords)] }
def WorldHeldSaid : Prop := worldHeldRow.holds Tryz.pinned (OpenSpec.ofChange worldHeldSpec)

/-- ITS FALSE NEIGHBOUR: 'it returns false'. Refute it at one input. -/
def worldHeldWrong : ChangeSpec := { name := "worldHeld", fn := fun _ => fun
  | [d1, d2, d3, d4] => { results := [.lit (.bool false)], args := [d1, d2, d3, d4] }
  | _ => none }
def WorldHeldWrongFalsely : Prop := worldHeldRow.holds Tryz.pinned (OpenSpec.ofChange worldHeldWrong)

/-- 'postilionlaw22.WorldAlone': WHATEVER THE INPUT: true; the input reads as it did. -/
def worldAloneSpec : ChangeSpec := { name := "worldAlone", fn := fun _ => fun
  | [d1, d2, d3, d4] => { results := [.lit (.bool true)], args := [d1, d2, d3, d4] }
  | _ => none }
def worldAloneRow : OpenClaim := { program := "ytpeaiphdkgifaaagreatdoor", sum := "af9388491da1445a88b12748c666a0a56a716930df812a881fd9509c721e62ac", func := "postilion/postilionlaw22.WorldAlone", spec := "worldAlone", inPlace := ["internal/abi.NoEscape", "internal/bytealg.MakeNoZero"], unfollowed := true, recurses := true, named := ["postilion/survey.keyWords", "internal/strconv.uint64pow10", "math/bits.deBruijn32tab", "math/bits.deBruijn64tab"], apart := false, laid := [("math/bits.deBruijn32tab", laid_math_bits_deBruijn32tab), ("math/bits.deBruijn64tab", laid_math_bits_deBruijn64tab), ("internal/strconv.uint64pow10", laid_internal_strconv_uint64pow10), ("postilion/survey.keyWords", laid_postilion_survey_keyWords)] }
def WorldAloneSaid : Prop := worldAloneRow.holds Tryz.pinned (OpenSpec.ofChange worldAloneSpec)

/-- ITS FALSE NEIGHBOUR: 'it returns false'. Refute it at one input. -/
def worldAloneWrong : ChangeSpec := { name := "worldAlone", fn := fun _ => fun
  | [d1, d2, d3, d4] => { results := [.lit (.bool false)], args := [d1, d2, d3, d4] }
  | _ => none }
def WorldAloneWrongFalsely : Prop := worldAloneRow.holds Tryz.pinned (OpenSpec.ofChange worldAloneWrong)

/-- 'postilionlaw22.WorldSpots': WHATEVER THE INPUT: true; the input reads as it did. -/
def worldSpotsSpec : ChangeSpec := { name := "worldSpots", fn := fun _ => fun
  | [d1, d2, d3, d4, d5, d6] => { results := [.lit (.bool true)], args := [d1, d2, d3, d4, d5, d6] }
  | _ => none }
def worldSpotsRow : OpenClaim := { program := "ytpeaiphdkgifaaagreatdoor", sum := "af9388491da1445a88b12748c666a0a56a716930df812a881fd9509c721e62ac", func := "postilion/postilionlaw22.WorldSpots", spec := "worldSpots", inPlace := ["internal/abi.NoEscape", "internal/bytealg.MakeNoZero"], unfollowed := true, recurses := true, named := ["postilion/survey.keyWords", "internal/strconv.uint64pow10", "math/bits.deBruijn32tab", "math/bits.deBruijn64tab"], apart := false, laid := [("math/bits.deBruijn32tab", laid_math_bits_deBruijn32tab), ("math/bits.deBruijn64tab", laid_math_bits_deBruijn64tab), ("internal/strconv.uint64pow10", laid_internal_strconv_uint64pow10), ("postilion/survey.keyWords", laid_postilion_survey_keyWords)] }
def WorldSpotsSaid : Prop := worldSpotsRow.holds Tryz.pinned (OpenSpec.ofChange worldSpotsSpec)

/-- ITS FALSE NEIGHBOUR: 'it returns false'. Refute it at one input. -/
def worldSpotsWrong : ChangeSpec := { name := "worldSpots", fn := fun _ => fun
  | [d1, d2, d3, d4, d5, d6] => { results := [.lit (.bool false)], args := [d1, d2, d3, d4, d5, d6] }
  | _ => none }
def WorldSpotsWrongFalsely : Prop := worldSpotsRow.holds Tryz.pinned (OpenSpec.ofChange worldSpotsWrong)

/-- 'postilionlaw22.WorldWays': WHATEVER THE INPUT: true; the input reads as it did. -/
def worldWaysSpec : ChangeSpec := { name := "worldWays", fn := fun _ => fun
  | [d1, d2, d3, d4] => { results := [.lit (.bool true)], args := [d1, d2, d3, d4] }
  | _ => none }
def worldWaysRow : OpenClaim := { program := "ytpeaiphdkgifaaagreatdoor", sum := "af9388491da1445a88b12748c666a0a56a716930df812a881fd9509c721e62ac", func := "postilion/postilionlaw22.WorldWays", spec := "worldWays", inPlace := ["internal/abi.NoEscape", "internal/bytealg.MakeNoZero"], unfollowed := true, recurses := true, named := ["postilion/survey.keyWords", "internal/strconv.uint64pow10", "math/bits.deBruijn32tab", "math/bits.deBruijn64tab"], apart := false, laid := [("math/bits.deBruijn32tab", laid_math_bits_deBruijn32tab), ("math/bits.deBruijn64tab", laid_math_bits_deBruijn64tab), ("internal/strconv.uint64pow10", laid_internal_strconv_uint64pow10), ("postilion/survey.keyWords", laid_postilion_survey_keyWords)] }
def WorldWaysSaid : Prop := worldWaysRow.holds Tryz.pinned (OpenSpec.ofChange worldWaysSpec)

/-- ITS FALSE NEIGHBOUR: 'it returns false'. Refute it at one input. -/
def worldWaysWrong : ChangeSpec := { name := "worldWays", fn := fun _ => fun
  | [d1, d2, d3, d4] => { results := [.lit (.bool false)], args := [d1, d2, d3, d4] }
  | _ => none }
def WorldWaysWrongFalsely : Prop := worldWaysRow.holds Tryz.pinned (OpenSpec.ofChange worldWaysWrong)

/-- 'postilionlaw22.WorldPromises': WHATEVER THE INPUT: true; the input reads as it did. -/
def worldPromisesSpec : ChangeSpec := { name := "worldPromises", fn := fun _ => fun
  | [d1, d2, d3, d4] => { results := [.lit (.bool true)], args := [d1, d2, d3, d4] }
  | _ => none }
def worldPromisesRow : OpenClaim := { program := "ytpeaiphdkgifaaagreatdoor", sum := "af9388491da1445a88b12748c666a0a56a716930df812a881fd9509c721e62ac", func := "postilion/postilionlaw22.WorldPromises", spec := "worldPromises", inPlace := ["internal/abi.NoEscape", "internal/bytealg.MakeNoZero"], unfollowed := true, recurses := true, named := ["postilion/survey.keyWords", "internal/strconv.uint64pow10", "math/bits.deBruijn32tab", "math/bits.deBruijn64tab"], apart := false, laid := [("math/bits.deBruijn32tab", laid_math_bits_deBruijn32tab), ("math/bits.deBruijn64tab", laid_math_bits_deBruijn64tab), ("internal/strconv.uint64pow10", laid_internal_strconv_uint64pow10), ("postilion/survey.keyWords", laid_postilion_survey_keyWords)] }
def WorldPromisesSaid : Prop := worldPromisesRow.holds Tryz.pinned (OpenSpec.ofChange worldPromisesSpec)

/-- ITS FALSE NEIGHBOUR: 'it returns false'. Refute it at one input. -/
def worldPromisesWrong : ChangeSpec := { name := "worldPromises", fn := fun _ => fun
  | [d1, d2, d3, d4] => { results := [.lit (.bool false)], args := [d1, d2, d3, d4] }
  | _ => none }
def WorldPromisesWrongFalsely : Prop := worldPromisesRow.holds Tryz.pinned (OpenSpec.ofChange worldPromisesWrong)

/- THE SECOND FORM. 'bulk': how many values and letters a reading holds, each counted each time it is reached (what is shared counts as often as it is met; a slice's spare places count too). A statement '..UptoSaid' is the law's where the arguments, and the package variables that the reading takes, are together of bulk at most 1048576: NARROWER than '..Said'. Prove '..Said' where nothing that the law and all that it calls make is longer than what came in: it says more and counts as full. Else prove '..UptoSaid'. A law counts once. -/
mutual
def uptoBulk {H : Type} : DataW H → Nat
  | .lit (.string bytes) => bytes.length + 1
  | .lit _ => 1
  | .nil => 1
  | .ptr d => uptoBulk d + 1
  | .slice elems spare => uptoBulkAll elems + uptoBulkAll spare + 1
  | .agg parts => uptoBulkAll parts + 1
  | .iface _ d => uptoBulk d + 1
  | .map entries => uptoBulkEntries entries + 1
  | .held _ => 1
def uptoBulkAll {H : Type} : List (DataW H) → Nat
  | [] => 0
  | d :: r => uptoBulk d + uptoBulkAll r
def uptoBulkEntries {H : Type} : List (Lit × DataW H) → Nat
  | [] => 0
  | x :: r => uptoBulkEntry x + uptoBulkEntries r
def uptoBulkEntry {H : Type} : Lit × DataW H → Nat
  | (.string bytes, d) => bytes.length + uptoBulk d + 1
  | (_, d) => uptoBulk d + 1
 end
def uptoSmall : (H : Type) → List (DataW H) → Bool := fun _ ds => decide (uptoBulkAll ds ≤ 1048576)
def OpenSpec.upto (s : _root_.Go.ChangeSpec) : _root_.Go.OpenSpec := { _root_.Go.OpenSpec.ofChange s with cond := some uptoSmall }

/-- 'postilionlaw22.WorldStops', WHERE WHAT IT READS IS OF BULK AT MOST 1048576: true; the input reads as it did. -/
def worldStopsUptoRow : OpenClaim := { program := "ytpeaiphdkgifaaagreatdoor", sum := "af9388491da1445a88b12748c666a0a56a716930df812a881fd9509c721e62ac", func := "postilion/postilionlaw22.WorldStops", spec := "worldStops", inPlace := ["internal/abi.NoEscape", "internal/bytealg.MakeNoZero"], unfollowed := true, recurses := true, named := ["postilion/survey.keyWords", "internal/strconv.uint64pow10", "math/bits.deBruijn32tab", "math/bits.deBruijn64tab"], apart := false, laid := [("math/bits.deBruijn32tab", laid_math_bits_deBruijn32tab), ("math/bits.deBruijn64tab", laid_math_bits_deBruijn64tab), ("internal/strconv.uint64pow10", laid_internal_strconv_uint64pow10), ("postilion/survey.keyWords", laid_postilion_survey_keyWords)], narrowed := true }
def WorldStopsUptoSaid : Prop := worldStopsUptoRow.holds Tryz.pinned (OpenSpec.upto worldStopsSpec)

/-- 'postilionlaw22.WorldLabels', WHERE WHAT IT READS IS OF BULK AT MOST 1048576: true; the input reads as it did. -/
def worldLabelsUptoRow : OpenClaim := { program := "ytpeaiphdkgifaaagreatdoor", sum := "af9388491da1445a88b12748c666a0a56a716930df812a881fd9509c721e62ac", func := "postilion/postilionlaw22.WorldLabels", spec := "worldLabels", inPlace := ["internal/abi.NoEscape", "internal/bytealg.MakeNoZero"], unfollowed := true, recurses := true, named := ["postilion/survey.keyWords", "internal/strconv.uint64pow10", "math/bits.deBruijn32tab", "math/bits.deBruijn64tab"], apart := false, laid := [("math/bits.deBruijn32tab", laid_math_bits_deBruijn32tab), ("math/bits.deBruijn64tab", laid_math_bits_deBruijn64tab), ("internal/strconv.uint64pow10", laid_internal_strconv_uint64pow10), ("postilion/survey.keyWords", laid_postilion_survey_keyWords)], narrowed := true }
def WorldLabelsUptoSaid : Prop := worldLabelsUptoRow.holds Tryz.pinned (OpenSpec.upto worldLabelsSpec)

/-- 'postilionlaw22.WorldDeeds', WHERE WHAT IT READS IS OF BULK AT MOST 1048576: true; the input reads as it did. -/
def worldDeedsUptoRow : OpenClaim := { program := "ytpeaiphdkgifaaagreatdoor", sum := "af9388491da1445a88b12748c666a0a56a716930df812a881fd9509c721e62ac", func := "postilion/postilionlaw22.WorldDeeds", spec := "worldDeeds", inPlace := ["internal/abi.NoEscape", "internal/bytealg.MakeNoZero"], unfollowed := true, recurses := true, named := ["postilion/survey.keyWords", "internal/strconv.uint64pow10", "math/bits.deBruijn32tab", "math/bits.deBruijn64tab"], apart := false, laid := [("math/bits.deBruijn32tab", laid_math_bits_deBruijn32tab), ("math/bits.deBruijn64tab", laid_math_bits_deBruijn64tab), ("internal/strconv.uint64pow10", laid_internal_strconv_uint64pow10), ("postilion/survey.keyWords", laid_postilion_survey_keyWords)], narrowed := true }
def WorldDeedsUptoSaid : Prop := worldDeedsUptoRow.holds Tryz.pinned (OpenSpec.upto worldDeedsSpec)

/-- 'postilionlaw22.WorldHeld', WHERE WHAT IT READS IS OF BULK AT MOST 1048576: true; the input reads as it did. -/
def worldHeldUptoRow : OpenClaim := { program := "ytpeaiphdkgifaaagreatdoor", sum := "af9388491da1445a88b12748c666a0a56a716930df812a881fd9509c721e62ac", func := "postilion/postilionlaw22.WorldHeld", spec := "worldHeld", inPlace := ["internal/abi.NoEscape", "internal/bytealg.MakeNoZero"], unfollowed := true, recurses := true, named := ["postilion/survey.keyWords", "internal/strconv.uint64pow10", "math/bits.deBruijn32tab", "math/bits.deBruijn64tab"], apart := false, laid := [("math/bits.deBruijn32tab", laid_math_bits_deBruijn32tab), ("math/bits.deBruijn64tab", laid_math_bits_deBruijn64tab), ("internal/strconv.uint64pow10", laid_internal_strconv_uint64pow10), ("postilion/survey.keyWords", laid_postilion_survey_keyWords)], narrowed := true }
def WorldHeldUptoSaid : Prop := worldHeldUptoRow.holds Tryz.pinned (OpenSpec.upto worldHeldSpec)

/-- 'postilionlaw22.WorldAlone', WHERE WHAT IT READS IS OF BULK AT MOST 1048576: true; the input reads as it did. -/
def worldAloneUptoRow : OpenClaim := { program := "ytpeaiphdkgifaaagreatdoor", sum := "af9388491da1445a88b12748c666a0a56a716930df812a881fd9509c721e62ac", func := "postilion/postilionlaw22.WorldAlone", spec := "worldAlone", inPlace := ["internal/abi.NoEscape", "internal/bytealg.MakeNoZero"], unfollowed := true, recurses := true, named := ["postilion/survey.keyWords", "internal/strconv.uint64pow10", "math/bits.deBruijn32tab", "math/bits.deBruijn64tab"], apart := false, laid := [("math/bits.deBruijn32tab", laid_math_bits_deBruijn32tab), ("math/bits.deBruijn64tab", laid_math_bits_deBruijn64tab), ("internal/strconv.uint64pow10", laid_internal_strconv_uint64pow10), ("postilion/survey.keyWords", laid_postilion_survey_keyWords)], narrowed := true }
def WorldAloneUptoSaid : Prop := worldAloneUptoRow.holds Tryz.pinned (OpenSpec.upto worldAloneSpec)

/-- 'postilionlaw22.WorldSpots', WHERE WHAT IT READS IS OF BULK AT MOST 1048576: true; the input reads as it did. -/
def worldSpotsUptoRow : OpenClaim := { program := "ytpeaiphdkgifaaagreatdoor", sum := "af9388491da1445a88b12748c666a0a56a716930df812a881fd9509c721e62ac", func := "postilion/postilionlaw22.WorldSpots", spec := "worldSpots", inPlace := ["internal/abi.NoEscape", "internal/bytealg.MakeNoZero"], unfollowed := true, recurses := true, named := ["postilion/survey.keyWords", "internal/strconv.uint64pow10", "math/bits.deBruijn32tab", "math/bits.deBruijn64tab"], apart := false, laid := [("math/bits.deBruijn32tab", laid_math_bits_deBruijn32tab), ("math/bits.deBruijn64tab", laid_math_bits_deBruijn64tab), ("internal/strconv.uint64pow10", laid_internal_strconv_uint64pow10), ("postilion/survey.keyWords", laid_postilion_survey_keyWords)], narrowed := true }
def WorldSpotsUptoSaid : Prop := worldSpotsUptoRow.holds Tryz.pinned (OpenSpec.upto worldSpotsSpec)

/-- 'postilionlaw22.WorldWays', WHERE WHAT IT READS IS OF BULK AT MOST 1048576: true; the input reads as it did. -/
def worldWaysUptoRow : OpenClaim := { program := "ytpeaiphdkgifaaagreatdoor", sum := "af9388491da1445a88b12748c666a0a56a716930df812a881fd9509c721e62ac", func := "postilion/postilionlaw22.WorldWays", spec := "worldWays", inPlace := ["internal/abi.NoEscape", "internal/bytealg.MakeNoZero"], unfollowed := true, recurses := true, named := ["postilion/survey.keyWords", "internal/strconv.uint64pow10", "math/bits.deBruijn32tab", "math/bits.deBruijn64tab"], apart := false, laid := [("math/bits.deBruijn32tab", laid_math_bits_deBruijn32tab), ("math/bits.deBruijn64tab", laid_math_bits_deBruijn64tab), ("internal/strconv.uint64pow10", laid_internal_strconv_uint64pow10), ("postilion/survey.keyWords", laid_postilion_survey_keyWords)], narrowed := true }
def WorldWaysUptoSaid : Prop := worldWaysUptoRow.holds Tryz.pinned (OpenSpec.upto worldWaysSpec)

/-- 'postilionlaw22.WorldPromises', WHERE WHAT IT READS IS OF BULK AT MOST 1048576: true; the input reads as it did. -/
def worldPromisesUptoRow : OpenClaim := { program := "ytpeaiphdkgifaaagreatdoor", sum := "af9388491da1445a88b12748c666a0a56a716930df812a881fd9509c721e62ac", func := "postilion/postilionlaw22.WorldPromises", spec := "worldPromises", inPlace := ["internal/abi.NoEscape", "internal/bytealg.MakeNoZero"], unfollowed := true, recurses := true, named := ["postilion/survey.keyWords", "internal/strconv.uint64pow10", "math/bits.deBruijn32tab", "math/bits.deBruijn64tab"], apart := false, laid := [("math/bits.deBruijn32tab", laid_math_bits_deBruijn32tab), ("math/bits.deBruijn64tab", laid_math_bits_deBruijn64tab), ("internal/strconv.uint64pow10", laid_internal_strconv_uint64pow10), ("postilion/survey.keyWords", laid_postilion_survey_keyWords)], narrowed := true }
def WorldPromisesUptoSaid : Prop := worldPromisesUptoRow.holds Tryz.pinned (OpenSpec.upto worldPromisesSpec)

end Rows
end Go.Proofs.YtpeaiphdkgifaaaGreatDoor
