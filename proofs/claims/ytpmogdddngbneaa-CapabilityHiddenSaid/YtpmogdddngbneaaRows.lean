/-
  No cell of these rows narrows 'for every input' (looked for: loops, veiled, ifaces, maps, wideKeys, modest, calm, conditions, laid).
  DERIVED. THE GIVEN ROWS OF THIS SEAT. 5 by the template 'for every input the law returns true; each argument reads behind the call as it read before'; 0 by the template 'total and deterministic' (their statements: YtpmogdddngbneaaTotals.lean).
  GIVEN WITH THE SEED: the statements are not yours to turn. If you find one false, say at which input.
  Laid BY PROGRAM, IN A SANDBOX (cutbox-rows.mjs): the forced cells as the released guide's own fill.sh prints them over the translation 49b34f6a8cc5f462… (all of the seat's roots in one cut). By AI agents, Wed Nov 11 2026. No macro, syntax, notation, axiom, sorry.
-/
import Derived.Test.YtpmogdddngbneaaChecked
import GoSem.Claim
import GoSem.ClaimJoined
import GoSem.ClaimMapViews
import Derived.JoinedTies
import Derived.KernelRfl
namespace Go.Proofs.Ytpmogdddngbneaa
/- THE CELL 'sum', in the pinned program and in every row, IS THE sha256 OF THE DUMP (.gsa) THAT YtpmogdddngbneaaProg.lean LOADS. Nothing in Lean hashes anything: it is a label: what it is worth is what the hold of that sum in a sandbox is worth. -/
noncomputable def Try.pinned : Pinned := { name := "ytpmogdddngbneaa", sum := "49b34f6a8cc5f46299a7c26f02879fbd5efb4cd6549ac0c2cf946eb92837826b", checked := Try.checked }
namespace Rows
def none {H : Type} : Left H := { results := [], args := [] }

/-- 'postilionlaw34.CapabilityMatchesReference': WHATEVER THE INPUT: true; the input reads as it did. -/
def capabilityMatchesReferenceSpec : ChangeSpec := { name := "capabilityMatchesReference", fn := fun _ => fun
  | [d1, d2, d3, d4, d5, d6] => { results := [.lit (.bool true)], args := [d1, d2, d3, d4, d5, d6] }
  | _ => none }
def capabilityMatchesReferenceRow : OpenClaim := { program := "ytpmogdddngbneaa", sum := "49b34f6a8cc5f46299a7c26f02879fbd5efb4cd6549ac0c2cf946eb92837826b", func := "postilion/postilionlaw34.CapabilityMatchesReference", spec := "capabilityMatchesReference", unfollowed := true, recurses := true, plainKeys := false, apart := false }
def CapabilityMatchesReferenceSaid : Prop := capabilityMatchesReferenceRow.holds Try.pinned (OpenSpec.ofChange capabilityMatchesReferenceSpec)

/-- ITS FALSE NEIGHBOUR: 'it returns false'. Refute it at one input. -/
def capabilityMatchesReferenceWrong : ChangeSpec := { name := "capabilityMatchesReference", fn := fun _ => fun
  | [d1, d2, d3, d4, d5, d6] => { results := [.lit (.bool false)], args := [d1, d2, d3, d4, d5, d6] }
  | _ => none }
def CapabilityMatchesReferenceWrongFalsely : Prop := capabilityMatchesReferenceRow.holds Try.pinned (OpenSpec.ofChange capabilityMatchesReferenceWrong)

/-- 'postilionlaw34.CapabilityRight': WHATEVER THE INPUT: true; the input reads as it did. -/
def capabilityRightSpec : ChangeSpec := { name := "capabilityRight", fn := fun _ => fun
  | [d1, d2, d3, d4, d5, d6] => { results := [.lit (.bool true)], args := [d1, d2, d3, d4, d5, d6] }
  | _ => none }
def capabilityRightRow : OpenClaim := { program := "ytpmogdddngbneaa", sum := "49b34f6a8cc5f46299a7c26f02879fbd5efb4cd6549ac0c2cf946eb92837826b", func := "postilion/postilionlaw34.CapabilityRight", spec := "capabilityRight", unfollowed := true, recurses := true, plainKeys := false, apart := false }
def CapabilityRightSaid : Prop := capabilityRightRow.holds Try.pinned (OpenSpec.ofChange capabilityRightSpec)

/-- ITS FALSE NEIGHBOUR: 'it returns false'. Refute it at one input. -/
def capabilityRightWrong : ChangeSpec := { name := "capabilityRight", fn := fun _ => fun
  | [d1, d2, d3, d4, d5, d6] => { results := [.lit (.bool false)], args := [d1, d2, d3, d4, d5, d6] }
  | _ => none }
def CapabilityRightWrongFalsely : Prop := capabilityRightRow.holds Try.pinned (OpenSpec.ofChange capabilityRightWrong)

/-- 'postilionlaw34.CapabilitySure': WHATEVER THE INPUT: true; the input reads as it did. -/
def capabilitySureSpec : ChangeSpec := { name := "capabilitySure", fn := fun _ => fun
  | [d1, d2, d3, d4] => { results := [.lit (.bool true)], args := [d1, d2, d3, d4] }
  | _ => none }
def capabilitySureRow : OpenClaim := { program := "ytpmogdddngbneaa", sum := "49b34f6a8cc5f46299a7c26f02879fbd5efb4cd6549ac0c2cf946eb92837826b", func := "postilion/postilionlaw34.CapabilitySure", spec := "capabilitySure", unfollowed := true, recurses := true, plainKeys := false, apart := false }
def CapabilitySureSaid : Prop := capabilitySureRow.holds Try.pinned (OpenSpec.ofChange capabilitySureSpec)

/-- ITS FALSE NEIGHBOUR: 'it returns false'. Refute it at one input. -/
def capabilitySureWrong : ChangeSpec := { name := "capabilitySure", fn := fun _ => fun
  | [d1, d2, d3, d4] => { results := [.lit (.bool false)], args := [d1, d2, d3, d4] }
  | _ => none }
def CapabilitySureWrongFalsely : Prop := capabilitySureRow.holds Try.pinned (OpenSpec.ofChange capabilitySureWrong)

/-- 'postilionlaw34.CapabilityHidden': WHATEVER THE INPUT: true; the input reads as it did. -/
def capabilityHiddenSpec : ChangeSpec := { name := "capabilityHidden", fn := fun _ => fun
  | [d1, d2, d3, d4, d5] => { results := [.lit (.bool true)], args := [d1, d2, d3, d4, d5] }
  | _ => none }
def capabilityHiddenRow : OpenClaim := { program := "ytpmogdddngbneaa", sum := "49b34f6a8cc5f46299a7c26f02879fbd5efb4cd6549ac0c2cf946eb92837826b", func := "postilion/postilionlaw34.CapabilityHidden", spec := "capabilityHidden", unfollowed := true, recurses := true, plainKeys := false, apart := false }
def CapabilityHiddenSaid : Prop := capabilityHiddenRow.holds Try.pinned (OpenSpec.ofChange capabilityHiddenSpec)

/-- ITS FALSE NEIGHBOUR: 'it returns false'. Refute it at one input. -/
def capabilityHiddenWrong : ChangeSpec := { name := "capabilityHidden", fn := fun _ => fun
  | [d1, d2, d3, d4, d5] => { results := [.lit (.bool false)], args := [d1, d2, d3, d4, d5] }
  | _ => none }
def CapabilityHiddenWrongFalsely : Prop := capabilityHiddenRow.holds Try.pinned (OpenSpec.ofChange capabilityHiddenWrong)

/-- 'postilionlaw34.CapabilityDoubt': WHATEVER THE INPUT: true; the input reads as it did. -/
def capabilityDoubtSpec : ChangeSpec := { name := "capabilityDoubt", fn := fun _ => fun
  | [d1, d2, d3, d4, d5, d6] => { results := [.lit (.bool true)], args := [d1, d2, d3, d4, d5, d6] }
  | _ => none }
def capabilityDoubtRow : OpenClaim := { program := "ytpmogdddngbneaa", sum := "49b34f6a8cc5f46299a7c26f02879fbd5efb4cd6549ac0c2cf946eb92837826b", func := "postilion/postilionlaw34.CapabilityDoubt", spec := "capabilityDoubt", unfollowed := true, recurses := true, plainKeys := false, apart := false }
def CapabilityDoubtSaid : Prop := capabilityDoubtRow.holds Try.pinned (OpenSpec.ofChange capabilityDoubtSpec)

/-- ITS FALSE NEIGHBOUR: 'it returns false'. Refute it at one input. -/
def capabilityDoubtWrong : ChangeSpec := { name := "capabilityDoubt", fn := fun _ => fun
  | [d1, d2, d3, d4, d5, d6] => { results := [.lit (.bool false)], args := [d1, d2, d3, d4, d5, d6] }
  | _ => none }
def CapabilityDoubtWrongFalsely : Prop := capabilityDoubtRow.holds Try.pinned (OpenSpec.ofChange capabilityDoubtWrong)

/- THE SECOND FORM. 'bulk': how many values and letters a reading holds, each counted each time it is reached (what is shared counts as often as it is met; a slice's spare places count too). A statement '..UptoSaid' is the law's where the arguments, and the package variables that the reading takes, are together of bulk at most 1048576: NARROWER than '..Said'. Prove '..Said' where nothing that the law and all that it calls make is longer than what came in: it says more and counts as full. Else prove '..UptoSaid'. A law counts once. -/
mutual
def uptoBulk {H : Type} : DataW H → Nat
  | .lit (.string bytes) => bytes.length + 1
  | .lit _ => 1
  | .nil => 1
  | .ptr d => uptoBulk d + 1
  | .slice elems spare => uptoBulkAll elems + uptoBulkAll spare + 1
  | .agg parts => uptoBulkAll parts + 1
  | .iface _ d => uptoBulk d + 1
  | .map entries => uptoBulkEntries entries + 1
  | .held _ => 1
def uptoBulkAll {H : Type} : List (DataW H) → Nat
  | [] => 0
  | d :: r => uptoBulk d + uptoBulkAll r
def uptoBulkEntries {H : Type} : List (Lit × DataW H) → Nat
  | [] => 0
  | x :: r => uptoBulkEntry x + uptoBulkEntries r
def uptoBulkEntry {H : Type} : Lit × DataW H → Nat
  | (.string bytes, d) => bytes.length + uptoBulk d + 1
  | (_, d) => uptoBulk d + 1
 end
def uptoSmall : (H : Type) → List (DataW H) → Bool := fun _ ds => decide (uptoBulkAll ds ≤ 1048576)
def OpenSpec.upto (s : _root_.Go.ChangeSpec) : _root_.Go.OpenSpec := { _root_.Go.OpenSpec.ofChange s with cond := some uptoSmall }

/-- 'postilionlaw34.CapabilityMatchesReference', WHERE WHAT IT READS IS OF BULK AT MOST 1048576: true; the input reads as it did. -/
def capabilityMatchesReferenceUptoRow : OpenClaim := { program := "ytpmogdddngbneaa", sum := "49b34f6a8cc5f46299a7c26f02879fbd5efb4cd6549ac0c2cf946eb92837826b", func := "postilion/postilionlaw34.CapabilityMatchesReference", spec := "capabilityMatchesReference", unfollowed := true, recurses := true, plainKeys := false, apart := false, narrowed := true }
def CapabilityMatchesReferenceUptoSaid : Prop := capabilityMatchesReferenceUptoRow.holds Try.pinned (OpenSpec.upto capabilityMatchesReferenceSpec)

/-- 'postilionlaw34.CapabilityRight', WHERE WHAT IT READS IS OF BULK AT MOST 1048576: true; the input reads as it did. -/
def capabilityRightUptoRow : OpenClaim := { program := "ytpmogdddngbneaa", sum := "49b34f6a8cc5f46299a7c26f02879fbd5efb4cd6549ac0c2cf946eb92837826b", func := "postilion/postilionlaw34.CapabilityRight", spec := "capabilityRight", unfollowed := true, recurses := true, plainKeys := false, apart := false, narrowed := true }
def CapabilityRightUptoSaid : Prop := capabilityRightUptoRow.holds Try.pinned (OpenSpec.upto capabilityRightSpec)

/-- 'postilionlaw34.CapabilitySure', WHERE WHAT IT READS IS OF BULK AT MOST 1048576: true; the input reads as it did. -/
def capabilitySureUptoRow : OpenClaim := { program := "ytpmogdddngbneaa", sum := "49b34f6a8cc5f46299a7c26f02879fbd5efb4cd6549ac0c2cf946eb92837826b", func := "postilion/postilionlaw34.CapabilitySure", spec := "capabilitySure", unfollowed := true, recurses := true, plainKeys := false, apart := false, narrowed := true }
def CapabilitySureUptoSaid : Prop := capabilitySureUptoRow.holds Try.pinned (OpenSpec.upto capabilitySureSpec)

/-- 'postilionlaw34.CapabilityHidden', WHERE WHAT IT READS IS OF BULK AT MOST 1048576: true; the input reads as it did. -/
def capabilityHiddenUptoRow : OpenClaim := { program := "ytpmogdddngbneaa", sum := "49b34f6a8cc5f46299a7c26f02879fbd5efb4cd6549ac0c2cf946eb92837826b", func := "postilion/postilionlaw34.CapabilityHidden", spec := "capabilityHidden", unfollowed := true, recurses := true, plainKeys := false, apart := false, narrowed := true }
def CapabilityHiddenUptoSaid : Prop := capabilityHiddenUptoRow.holds Try.pinned (OpenSpec.upto capabilityHiddenSpec)

/-- 'postilionlaw34.CapabilityDoubt', WHERE WHAT IT READS IS OF BULK AT MOST 1048576: true; the input reads as it did. -/
def capabilityDoubtUptoRow : OpenClaim := { program := "ytpmogdddngbneaa", sum := "49b34f6a8cc5f46299a7c26f02879fbd5efb4cd6549ac0c2cf946eb92837826b", func := "postilion/postilionlaw34.CapabilityDoubt", spec := "capabilityDoubt", unfollowed := true, recurses := true, plainKeys := false, apart := false, narrowed := true }
def CapabilityDoubtUptoSaid : Prop := capabilityDoubtUptoRow.holds Try.pinned (OpenSpec.upto capabilityDoubtSpec)

end Rows
end Go.Proofs.Ytpmogdddngbneaa
