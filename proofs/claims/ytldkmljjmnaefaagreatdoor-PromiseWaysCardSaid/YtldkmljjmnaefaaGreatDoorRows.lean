/-
  NARROWER THAN 'FOR EVERY INPUT', by the rows' own cells (each row's printed sentence says how): PromiseLater: laid · PromiseLonger: laid · PromiseFaster: laid · PromiseMinutes: laid · PromiseWays: laid.
  DERIVED. THE GIVEN ROWS OF THIS SEAT. 5 by the template 'for every input the law returns true; each argument reads behind the call as it read before'; 0 by the template 'total and deterministic' (their statements: YtldkmljjmnaefaaGreatDoorTotals.lean).
  GIVEN WITH THE SEED: the statements are not yours to turn. If you find one false, say at which input.
  Laid BY PROGRAM, IN A SANDBOX (cutbox-rows.mjs): the forced cells as the released guide's own fill.sh prints them over the translation eb3d1f99847c39b8… (all of the seat's roots in one cut). By AI agents, Wed Nov 11 2026. No macro, syntax, notation, axiom, sorry.
-/
import Derived.Test.YtldkmljjmnaefaaGreatDoorChecked
import GoSem.Claim
import GoSem.ClaimJoined
import GoSem.ClaimMapViews
import Derived.JoinedTies
import Derived.KernelRfl
namespace Go.Proofs.YtldkmljjmnaefaaGreatDoor
/- THE CELL 'sum', in the pinned program and in every row, IS THE sha256 OF THE DUMP (.gsa) THAT YtldkmljjmnaefaaGreatDoorProg.lean LOADS. Nothing in Lean hashes anything: it is a label: what it is worth is what the hold of that sum in a sandbox is worth. -/
noncomputable def Tryz.pinned : Pinned := { name := "ytldkmljjmnaefaagreatdoor", sum := "eb3d1f99847c39b8c7d410a747efef93d7705f09af30b6187bb63372ed13f62a", checked := Tryz.checked }
namespace Rows
def none {H : Type} : Left H := { results := [], args := [] }

/- WHAT THE LISTED PACKAGE-LEVEL VARIABLES READ AS WHEN THE CALL BEGINS. Each datum BY PROGRAM (the guide's laid-datum.mjs) off the statement by which the dump's own 'gosem.cut.vars' lays the variable. In a bare row this is a premise. The card (YtldkmljjmnaefaaGreatDoorCards.lean) ties it to the program's text. -/
def laid_postilion_survey_keyWords {H : Type} : DataW H := .agg [.lit (.string [99, 97, 108, 101, 110, 100, 97, 114]), .lit (.string [111, 112, 101, 114, 97, 116, 111, 114]), .lit (.string [111, 102, 102, 105, 99, 101]), .lit (.string [108, 105, 110, 101]), .lit (.string [99, 108, 97, 115, 115]), .lit (.string [122, 111, 110, 101]), .lit (.string [119, 101, 101, 107]), .lit (.string [104, 111, 108, 105, 100, 97, 121]), .lit (.string [112, 111, 99, 107, 101, 116, 115]), .lit (.string [112, 97, 115, 115, 101, 115]), .lit (.string [109, 105, 110, 117, 116, 101, 115]), .lit (.string [99, 111, 100, 101, 115]), .lit (.string [97, 116]), .lit (.string [116, 114, 97, 118, 101, 108]), .lit (.string [108, 111, 97, 100]), .lit (.string [99, 117, 116]), .lit (.string [100, 101, 108, 105, 118, 101, 114])]

/-- 'postilionlaw17.PromiseLater': WHATEVER THE INPUT: true; the input reads as it did. -/
def promiseLaterSpec : ChangeSpec := { name := "promiseLater", fn := fun _ => fun
  | [d1, d2, d3, d4, d5, d6, d7] => { results := [.lit (.bool true)], args := [d1, d2, d3, d4, d5, d6, d7] }
  | _ => none }
def promiseLaterRow : OpenClaim := { program := "ytldkmljjmnaefaagreatdoor", sum := "eb3d1f99847c39b8c7d410a747efef93d7705f09af30b6187bb63372ed13f62a", func := "postilion/postilionlaw17.PromiseLater", spec := "promiseLater", unfollowed := true, recurses := true, named := ["postilion/survey.keyWords"], apart := false, laid := [("postilion/survey.keyWords", laid_postilion_survey_keyWords)] }
def PromiseLaterSaid : Prop := promiseLaterRow.holds Tryz.pinned (OpenSpec.ofChange promiseLaterSpec)

/-- ITS FALSE NEIGHBOUR: 'it returns false'. Refute it at one input. -/
def promiseLaterWrong : ChangeSpec := { name := "promiseLater", fn := fun _ => fun
  | [d1, d2, d3, d4, d5, d6, d7] => { results := [.lit (.bool false)], args := [d1, d2, d3, d4, d5, d6, d7] }
  | _ => none }
def PromiseLaterWrongFalsely : Prop := promiseLaterRow.holds Tryz.pinned (OpenSpec.ofChange promiseLaterWrong)

/-- 'postilionlaw17.PromiseLonger': WHATEVER THE INPUT: true; the input reads as it did. -/
def promiseLongerSpec : ChangeSpec := { name := "promiseLonger", fn := fun _ => fun
  | [d1, d2, d3, d4, d5] => { results := [.lit (.bool true)], args := [d1, d2, d3, d4, d5] }
  | _ => none }
def promiseLongerRow : OpenClaim := { program := "ytldkmljjmnaefaagreatdoor", sum := "eb3d1f99847c39b8c7d410a747efef93d7705f09af30b6187bb63372ed13f62a", func := "postilion/postilionlaw17.PromiseLonger", spec := "promiseLonger", unfollowed := true, recurses := true, named := ["postilion/survey.keyWords"], apart := false, laid := [("postilion/survey.keyWords", laid_postilion_survey_keyWords)] }
def PromiseLongerSaid : Prop := promiseLongerRow.holds Tryz.pinned (OpenSpec.ofChange promiseLongerSpec)

/-- ITS FALSE NEIGHBOUR: 'it returns false'. Refute it at one input. -/
def promiseLongerWrong : ChangeSpec := { name := "promiseLonger", fn := fun _ => fun
  | [d1, d2, d3, d4, d5] => { results := [.lit (.bool false)], args := [d1, d2, d3, d4, d5] }
  | _ => none }
def PromiseLongerWrongFalsely : Prop := promiseLongerRow.holds Tryz.pinned (OpenSpec.ofChange promiseLongerWrong)

/-- 'postilionlaw17.PromiseFaster': WHATEVER THE INPUT: true; the input reads as it did. -/
def promiseFasterSpec : ChangeSpec := { name := "promiseFaster", fn := fun _ => fun
  | [d1, d2, d3, d4, d5, d6, d7, d8] => { results := [.lit (.bool true)], args := [d1, d2, d3, d4, d5, d6, d7, d8] }
  | _ => none }
def promiseFasterRow : OpenClaim := { program := "ytldkmljjmnaefaagreatdoor", sum := "eb3d1f99847c39b8c7d410a747efef93d7705f09af30b6187bb63372ed13f62a", func := "postilion/postilionlaw17.PromiseFaster", spec := "promiseFaster", unfollowed := true, recurses := true, named := ["postilion/survey.keyWords"], apart := false, laid := [("postilion/survey.keyWords", laid_postilion_survey_keyWords)] }
def PromiseFasterSaid : Prop := promiseFasterRow.holds Tryz.pinned (OpenSpec.ofChange promiseFasterSpec)

/-- ITS FALSE NEIGHBOUR: 'it returns false'. Refute it at one input. -/
def promiseFasterWrong : ChangeSpec := { name := "promiseFaster", fn := fun _ => fun
  | [d1, d2, d3, d4, d5, d6, d7, d8] => { results := [.lit (.bool false)], args := [d1, d2, d3, d4, d5, d6, d7, d8] }
  | _ => none }
def PromiseFasterWrongFalsely : Prop := promiseFasterRow.holds Tryz.pinned (OpenSpec.ofChange promiseFasterWrong)

/-- 'postilionlaw17.PromiseMinutes': WHATEVER THE INPUT: true; the input reads as it did. -/
def promiseMinutesSpec : ChangeSpec := { name := "promiseMinutes", fn := fun _ => fun
  | [d1, d2, d3, d4] => { results := [.lit (.bool true)], args := [d1, d2, d3, d4] }
  | _ => none }
def promiseMinutesRow : OpenClaim := { program := "ytldkmljjmnaefaagreatdoor", sum := "eb3d1f99847c39b8c7d410a747efef93d7705f09af30b6187bb63372ed13f62a", func := "postilion/postilionlaw17.PromiseMinutes", spec := "promiseMinutes", unfollowed := true, recurses := true, named := ["postilion/survey.keyWords"], apart := false, laid := [("postilion/survey.keyWords", laid_postilion_survey_keyWords)] }
def PromiseMinutesSaid : Prop := promiseMinutesRow.holds Tryz.pinned (OpenSpec.ofChange promiseMinutesSpec)

/-- ITS FALSE NEIGHBOUR: 'it returns false'. Refute it at one input. -/
def promiseMinutesWrong : ChangeSpec := { name := "promiseMinutes", fn := fun _ => fun
  | [d1, d2, d3, d4] => { results := [.lit (.bool false)], args := [d1, d2, d3, d4] }
  | _ => none }
def PromiseMinutesWrongFalsely : Prop := promiseMinutesRow.holds Tryz.pinned (OpenSpec.ofChange promiseMinutesWrong)

/-- 'postilionlaw17.PromiseWays': WHATEVER THE INPUT: true; the input reads as it did. -/
def promiseWaysSpec : ChangeSpec := { name := "promiseWays", fn := fun _ => fun
  | [d1, d2, d3, d4, d5, d6] => { results := [.lit (.bool true)], args := [d1, d2, d3, d4, d5, d6] }
  | _ => none }
def promiseWaysRow : OpenClaim := { program := "ytldkmljjmnaefaagreatdoor", sum := "eb3d1f99847c39b8c7d410a747efef93d7705f09af30b6187bb63372ed13f62a", func := "postilion/postilionlaw17.PromiseWays", spec := "promiseWays", unfollowed := true, recurses := true, named := ["postilion/survey.keyWords"], apart := false, laid := [("postilion/survey.keyWords", laid_postilion_survey_keyWords)] }
def PromiseWaysSaid : Prop := promiseWaysRow.holds Tryz.pinned (OpenSpec.ofChange promiseWaysSpec)

/-- ITS FALSE NEIGHBOUR: 'it returns false'. Refute it at one input. -/
def promiseWaysWrong : ChangeSpec := { name := "promiseWays", fn := fun _ => fun
  | [d1, d2, d3, d4, d5, d6] => { results := [.lit (.bool false)], args := [d1, d2, d3, d4, d5, d6] }
  | _ => none }
def PromiseWaysWrongFalsely : Prop := promiseWaysRow.holds Tryz.pinned (OpenSpec.ofChange promiseWaysWrong)

/- THE SECOND FORM. 'bulk': how many values and letters a reading holds, each counted each time it is reached (what is shared counts as often as it is met; a slice's spare places count too). A statement '..UptoSaid' is the law's where the arguments, and the package variables that the reading takes, are together of bulk at most 1048576: NARROWER than '..Said'. Prove '..Said' where nothing that the law and all that it calls make is longer than what came in: it says more and counts as full. Else prove '..UptoSaid'. A law counts once. -/
mutual
def uptoBulk {H : Type} : DataW H → Nat
  | .lit (.string bytes) => bytes.length + 1
  | .lit _ => 1
  | .nil => 1
  | .ptr d => uptoBulk d + 1
  | .slice elems spare => uptoBulkAll elems + uptoBulkAll spare + 1
  | .agg parts => uptoBulkAll parts + 1
  | .iface _ d => uptoBulk d + 1
  | .map entries => uptoBulkEntries entries + 1
  | .held _ => 1
def uptoBulkAll {H : Type} : List (DataW H) → Nat
  | [] => 0
  | d :: r => uptoBulk d + uptoBulkAll r
def uptoBulkEntries {H : Type} : List (Lit × DataW H) → Nat
  | [] => 0
  | x :: r => uptoBulkEntry x + uptoBulkEntries r
def uptoBulkEntry {H : Type} : Lit × DataW H → Nat
  | (.string bytes, d) => bytes.length + uptoBulk d + 1
  | (_, d) => uptoBulk d + 1
 end
def uptoSmall : (H : Type) → List (DataW H) → Bool := fun _ ds => decide (uptoBulkAll ds ≤ 1048576)
def OpenSpec.upto (s : _root_.Go.ChangeSpec) : _root_.Go.OpenSpec := { _root_.Go.OpenSpec.ofChange s with cond := some uptoSmall }

/-- 'postilionlaw17.PromiseLater', WHERE WHAT IT READS IS OF BULK AT MOST 1048576: true; the input reads as it did. -/
def promiseLaterUptoRow : OpenClaim := { program := "ytldkmljjmnaefaagreatdoor", sum := "eb3d1f99847c39b8c7d410a747efef93d7705f09af30b6187bb63372ed13f62a", func := "postilion/postilionlaw17.PromiseLater", spec := "promiseLater", unfollowed := true, recurses := true, named := ["postilion/survey.keyWords"], apart := false, laid := [("postilion/survey.keyWords", laid_postilion_survey_keyWords)], narrowed := true }
def PromiseLaterUptoSaid : Prop := promiseLaterUptoRow.holds Tryz.pinned (OpenSpec.upto promiseLaterSpec)

/-- 'postilionlaw17.PromiseLonger', WHERE WHAT IT READS IS OF BULK AT MOST 1048576: true; the input reads as it did. -/
def promiseLongerUptoRow : OpenClaim := { program := "ytldkmljjmnaefaagreatdoor", sum := "eb3d1f99847c39b8c7d410a747efef93d7705f09af30b6187bb63372ed13f62a", func := "postilion/postilionlaw17.PromiseLonger", spec := "promiseLonger", unfollowed := true, recurses := true, named := ["postilion/survey.keyWords"], apart := false, laid := [("postilion/survey.keyWords", laid_postilion_survey_keyWords)], narrowed := true }
def PromiseLongerUptoSaid : Prop := promiseLongerUptoRow.holds Tryz.pinned (OpenSpec.upto promiseLongerSpec)

/-- 'postilionlaw17.PromiseFaster', WHERE WHAT IT READS IS OF BULK AT MOST 1048576: true; the input reads as it did. -/
def promiseFasterUptoRow : OpenClaim := { program := "ytldkmljjmnaefaagreatdoor", sum := "eb3d1f99847c39b8c7d410a747efef93d7705f09af30b6187bb63372ed13f62a", func := "postilion/postilionlaw17.PromiseFaster", spec := "promiseFaster", unfollowed := true, recurses := true, named := ["postilion/survey.keyWords"], apart := false, laid := [("postilion/survey.keyWords", laid_postilion_survey_keyWords)], narrowed := true }
def PromiseFasterUptoSaid : Prop := promiseFasterUptoRow.holds Tryz.pinned (OpenSpec.upto promiseFasterSpec)

/-- 'postilionlaw17.PromiseMinutes', WHERE WHAT IT READS IS OF BULK AT MOST 1048576: true; the input reads as it did. -/
def promiseMinutesUptoRow : OpenClaim := { program := "ytldkmljjmnaefaagreatdoor", sum := "eb3d1f99847c39b8c7d410a747efef93d7705f09af30b6187bb63372ed13f62a", func := "postilion/postilionlaw17.PromiseMinutes", spec := "promiseMinutes", unfollowed := true, recurses := true, named := ["postilion/survey.keyWords"], apart := false, laid := [("postilion/survey.keyWords", laid_postilion_survey_keyWords)], narrowed := true }
def PromiseMinutesUptoSaid : Prop := promiseMinutesUptoRow.holds Tryz.pinned (OpenSpec.upto promiseMinutesSpec)

/-- 'postilionlaw17.PromiseWays', WHERE WHAT IT READS IS OF BULK AT MOST 1048576: true; the input reads as it did. -/
def promiseWaysUptoRow : OpenClaim := { program := "ytldkmljjmnaefaagreatdoor", sum := "eb3d1f99847c39b8c7d410a747efef93d7705f09af30b6187bb63372ed13f62a", func := "postilion/postilionlaw17.PromiseWays", spec := "promiseWays", unfollowed := true, recurses := true, named := ["postilion/survey.keyWords"], apart := false, laid := [("postilion/survey.keyWords", laid_postilion_survey_keyWords)], narrowed := true }
def PromiseWaysUptoSaid : Prop := promiseWaysUptoRow.holds Tryz.pinned (OpenSpec.upto promiseWaysSpec)

end Rows
end Go.Proofs.YtldkmljjmnaefaaGreatDoor
