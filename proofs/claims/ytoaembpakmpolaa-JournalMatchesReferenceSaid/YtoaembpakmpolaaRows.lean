/-
  No cell of these rows narrows 'for every input' (looked for: loops, veiled, ifaces, maps, wideKeys, modest, calm, conditions, laid).
  DERIVED. THE GIVEN ROWS OF THIS SEAT. 7 by the template 'for every input the law returns true; each argument reads behind the call as it read before'; 0 by the template 'total and deterministic' (their statements: YtoaembpakmpolaaTotals.lean).
  GIVEN WITH THE SEED: the statements are not yours to turn. If you find one false, say at which input.
  Laid BY PROGRAM, IN A SANDBOX (cutbox-rows.mjs): the forced cells as the released guide's own fill.sh prints them over the translation b03235027d30407f… (all of the seat's roots in one cut). By AI agents, Wed Nov 11 2026. No macro, syntax, notation, axiom, sorry.
-/
import Derived.Test.YtoaembpakmpolaaChecked
import GoSem.Claim
import GoSem.ClaimJoined
import GoSem.ClaimMapViews
import Derived.JoinedTies
import Derived.KernelRfl
namespace Go.Proofs.Ytoaembpakmpolaa
/- THE CELL 'sum', in the pinned program and in every row, IS THE sha256 OF THE DUMP (.gsa) THAT YtoaembpakmpolaaProg.lean LOADS. Nothing in Lean hashes anything: it is a label: what it is worth is what the hold of that sum in a sandbox is worth. -/
noncomputable def Try.pinned : Pinned := { name := "ytoaembpakmpolaa", sum := "b03235027d30407f85022fbfbaa0f3a2781596c072cfbbe7745d0ce4d2693d8a", checked := Try.checked }
namespace Rows
def none {H : Type} : Left H := { results := [], args := [] }

/-- 'postilionlaw40.JournalMatchesReference': WHATEVER THE INPUT: true; the input reads as it did. -/
def journalMatchesReferenceSpec : ChangeSpec := { name := "journalMatchesReference", fn := fun _ => fun
  | [d1, d2, d3] => { results := [.lit (.bool true)], args := [d1, d2, d3] }
  | _ => none }
def journalMatchesReferenceRow : OpenClaim := { program := "ytoaembpakmpolaa", sum := "b03235027d30407f85022fbfbaa0f3a2781596c072cfbbe7745d0ce4d2693d8a", func := "postilion/postilionlaw40.JournalMatchesReference", spec := "journalMatchesReference", unfollowed := true, recurses := true, apart := false }
def JournalMatchesReferenceSaid : Prop := journalMatchesReferenceRow.holds Try.pinned (OpenSpec.ofChange journalMatchesReferenceSpec)

/-- ITS FALSE NEIGHBOUR: 'it returns false'. Refute it at one input. -/
def journalMatchesReferenceWrong : ChangeSpec := { name := "journalMatchesReference", fn := fun _ => fun
  | [d1, d2, d3] => { results := [.lit (.bool false)], args := [d1, d2, d3] }
  | _ => none }
def JournalMatchesReferenceWrongFalsely : Prop := journalMatchesReferenceRow.holds Try.pinned (OpenSpec.ofChange journalMatchesReferenceWrong)

/-- 'postilionlaw40.JournalEntries': WHATEVER THE INPUT: true; the input reads as it did. -/
def journalEntriesSpec : ChangeSpec := { name := "journalEntries", fn := fun _ => fun
  | [d1, d2] => { results := [.lit (.bool true)], args := [d1, d2] }
  | _ => none }
def journalEntriesRow : OpenClaim := { program := "ytoaembpakmpolaa", sum := "b03235027d30407f85022fbfbaa0f3a2781596c072cfbbe7745d0ce4d2693d8a", func := "postilion/postilionlaw40.JournalEntries", spec := "journalEntries", unfollowed := true, recurses := true, apart := false }
def JournalEntriesSaid : Prop := journalEntriesRow.holds Try.pinned (OpenSpec.ofChange journalEntriesSpec)

/-- ITS FALSE NEIGHBOUR: 'it returns false'. Refute it at one input. -/
def journalEntriesWrong : ChangeSpec := { name := "journalEntries", fn := fun _ => fun
  | [d1, d2] => { results := [.lit (.bool false)], args := [d1, d2] }
  | _ => none }
def JournalEntriesWrongFalsely : Prop := journalEntriesRow.holds Try.pinned (OpenSpec.ofChange journalEntriesWrong)

/-- 'postilionlaw40.JournalAppends': WHATEVER THE INPUT: true; the input reads as it did. -/
def journalAppendsSpec : ChangeSpec := { name := "journalAppends", fn := fun _ => fun
  | [d1, d2] => { results := [.lit (.bool true)], args := [d1, d2] }
  | _ => none }
def journalAppendsRow : OpenClaim := { program := "ytoaembpakmpolaa", sum := "b03235027d30407f85022fbfbaa0f3a2781596c072cfbbe7745d0ce4d2693d8a", func := "postilion/postilionlaw40.JournalAppends", spec := "journalAppends", unfollowed := true, recurses := true, apart := false }
def JournalAppendsSaid : Prop := journalAppendsRow.holds Try.pinned (OpenSpec.ofChange journalAppendsSpec)

/-- ITS FALSE NEIGHBOUR: 'it returns false'. Refute it at one input. -/
def journalAppendsWrong : ChangeSpec := { name := "journalAppends", fn := fun _ => fun
  | [d1, d2] => { results := [.lit (.bool false)], args := [d1, d2] }
  | _ => none }
def JournalAppendsWrongFalsely : Prop := journalAppendsRow.holds Try.pinned (OpenSpec.ofChange journalAppendsWrong)

/-- 'postilionlaw40.JournalTears': WHATEVER THE INPUT: true; the input reads as it did. -/
def journalTearsSpec : ChangeSpec := { name := "journalTears", fn := fun _ => fun
  | [d1, d2] => { results := [.lit (.bool true)], args := [d1, d2] }
  | _ => none }
def journalTearsRow : OpenClaim := { program := "ytoaembpakmpolaa", sum := "b03235027d30407f85022fbfbaa0f3a2781596c072cfbbe7745d0ce4d2693d8a", func := "postilion/postilionlaw40.JournalTears", spec := "journalTears", unfollowed := true, recurses := true, apart := false }
def JournalTearsSaid : Prop := journalTearsRow.holds Try.pinned (OpenSpec.ofChange journalTearsSpec)

/-- ITS FALSE NEIGHBOUR: 'it returns false'. Refute it at one input. -/
def journalTearsWrong : ChangeSpec := { name := "journalTears", fn := fun _ => fun
  | [d1, d2] => { results := [.lit (.bool false)], args := [d1, d2] }
  | _ => none }
def JournalTearsWrongFalsely : Prop := journalTearsRow.holds Try.pinned (OpenSpec.ofChange journalTearsWrong)

/-- 'postilionlaw40.JournalTails': WHATEVER THE INPUT: true; the input reads as it did. -/
def journalTailsSpec : ChangeSpec := { name := "journalTails", fn := fun _ => fun
  | [d1, d2] => { results := [.lit (.bool true)], args := [d1, d2] }
  | _ => none }
def journalTailsRow : OpenClaim := { program := "ytoaembpakmpolaa", sum := "b03235027d30407f85022fbfbaa0f3a2781596c072cfbbe7745d0ce4d2693d8a", func := "postilion/postilionlaw40.JournalTails", spec := "journalTails", unfollowed := true, recurses := true, apart := false }
def JournalTailsSaid : Prop := journalTailsRow.holds Try.pinned (OpenSpec.ofChange journalTailsSpec)

/-- ITS FALSE NEIGHBOUR: 'it returns false'. Refute it at one input. -/
def journalTailsWrong : ChangeSpec := { name := "journalTails", fn := fun _ => fun
  | [d1, d2] => { results := [.lit (.bool false)], args := [d1, d2] }
  | _ => none }
def JournalTailsWrongFalsely : Prop := journalTailsRow.holds Try.pinned (OpenSpec.ofChange journalTailsWrong)

/-- 'postilionlaw40.JournalDamage': WHATEVER THE INPUT: true; the input reads as it did. -/
def journalDamageSpec : ChangeSpec := { name := "journalDamage", fn := fun _ => fun
  | [d1, d2, d3] => { results := [.lit (.bool true)], args := [d1, d2, d3] }
  | _ => none }
def journalDamageRow : OpenClaim := { program := "ytoaembpakmpolaa", sum := "b03235027d30407f85022fbfbaa0f3a2781596c072cfbbe7745d0ce4d2693d8a", func := "postilion/postilionlaw40.JournalDamage", spec := "journalDamage", unfollowed := true, recurses := true, apart := false }
def JournalDamageSaid : Prop := journalDamageRow.holds Try.pinned (OpenSpec.ofChange journalDamageSpec)

/-- ITS FALSE NEIGHBOUR: 'it returns false'. Refute it at one input. -/
def journalDamageWrong : ChangeSpec := { name := "journalDamage", fn := fun _ => fun
  | [d1, d2, d3] => { results := [.lit (.bool false)], args := [d1, d2, d3] }
  | _ => none }
def JournalDamageWrongFalsely : Prop := journalDamageRow.holds Try.pinned (OpenSpec.ofChange journalDamageWrong)

/-- 'postilionlaw40.JournalGoesOn': WHATEVER THE INPUT: true; the input reads as it did. -/
def journalGoesOnSpec : ChangeSpec := { name := "journalGoesOn", fn := fun _ => fun
  | [d1, d2] => { results := [.lit (.bool true)], args := [d1, d2] }
  | _ => none }
def journalGoesOnRow : OpenClaim := { program := "ytoaembpakmpolaa", sum := "b03235027d30407f85022fbfbaa0f3a2781596c072cfbbe7745d0ce4d2693d8a", func := "postilion/postilionlaw40.JournalGoesOn", spec := "journalGoesOn", unfollowed := true, recurses := true, apart := false }
def JournalGoesOnSaid : Prop := journalGoesOnRow.holds Try.pinned (OpenSpec.ofChange journalGoesOnSpec)

/-- ITS FALSE NEIGHBOUR: 'it returns false'. Refute it at one input. -/
def journalGoesOnWrong : ChangeSpec := { name := "journalGoesOn", fn := fun _ => fun
  | [d1, d2] => { results := [.lit (.bool false)], args := [d1, d2] }
  | _ => none }
def JournalGoesOnWrongFalsely : Prop := journalGoesOnRow.holds Try.pinned (OpenSpec.ofChange journalGoesOnWrong)

/- THE SECOND FORM. 'bulk': how many values and letters a reading holds, each counted each time it is reached (what is shared counts as often as it is met; a slice's spare places count too). A statement '..UptoSaid' is the law's where the arguments, and the package variables that the reading takes, are together of bulk at most 1048576: NARROWER than '..Said'. Prove '..Said' where nothing that the law and all that it calls make is longer than what came in: it says more and counts as full. Else prove '..UptoSaid'. A law counts once. -/
mutual
def uptoBulk {H : Type} : DataW H → Nat
  | .lit (.string bytes) => bytes.length + 1
  | .lit _ => 1
  | .nil => 1
  | .ptr d => uptoBulk d + 1
  | .slice elems spare => uptoBulkAll elems + uptoBulkAll spare + 1
  | .agg parts => uptoBulkAll parts + 1
  | .iface _ d => uptoBulk d + 1
  | .map entries => uptoBulkEntries entries + 1
  | .held _ => 1
def uptoBulkAll {H : Type} : List (DataW H) → Nat
  | [] => 0
  | d :: r => uptoBulk d + uptoBulkAll r
def uptoBulkEntries {H : Type} : List (Lit × DataW H) → Nat
  | [] => 0
  | x :: r => uptoBulkEntry x + uptoBulkEntries r
def uptoBulkEntry {H : Type} : Lit × DataW H → Nat
  | (.string bytes, d) => bytes.length + uptoBulk d + 1
  | (_, d) => uptoBulk d + 1
 end
def uptoSmall : (H : Type) → List (DataW H) → Bool := fun _ ds => decide (uptoBulkAll ds ≤ 1048576)
def OpenSpec.upto (s : _root_.Go.ChangeSpec) : _root_.Go.OpenSpec := { _root_.Go.OpenSpec.ofChange s with cond := some uptoSmall }

/-- 'postilionlaw40.JournalMatchesReference', WHERE WHAT IT READS IS OF BULK AT MOST 1048576: true; the input reads as it did. -/
def journalMatchesReferenceUptoRow : OpenClaim := { program := "ytoaembpakmpolaa", sum := "b03235027d30407f85022fbfbaa0f3a2781596c072cfbbe7745d0ce4d2693d8a", func := "postilion/postilionlaw40.JournalMatchesReference", spec := "journalMatchesReference", unfollowed := true, recurses := true, apart := false, narrowed := true }
def JournalMatchesReferenceUptoSaid : Prop := journalMatchesReferenceUptoRow.holds Try.pinned (OpenSpec.upto journalMatchesReferenceSpec)

/-- 'postilionlaw40.JournalEntries', WHERE WHAT IT READS IS OF BULK AT MOST 1048576: true; the input reads as it did. -/
def journalEntriesUptoRow : OpenClaim := { program := "ytoaembpakmpolaa", sum := "b03235027d30407f85022fbfbaa0f3a2781596c072cfbbe7745d0ce4d2693d8a", func := "postilion/postilionlaw40.JournalEntries", spec := "journalEntries", unfollowed := true, recurses := true, apart := false, narrowed := true }
def JournalEntriesUptoSaid : Prop := journalEntriesUptoRow.holds Try.pinned (OpenSpec.upto journalEntriesSpec)

/-- 'postilionlaw40.JournalAppends', WHERE WHAT IT READS IS OF BULK AT MOST 1048576: true; the input reads as it did. -/
def journalAppendsUptoRow : OpenClaim := { program := "ytoaembpakmpolaa", sum := "b03235027d30407f85022fbfbaa0f3a2781596c072cfbbe7745d0ce4d2693d8a", func := "postilion/postilionlaw40.JournalAppends", spec := "journalAppends", unfollowed := true, recurses := true, apart := false, narrowed := true }
def JournalAppendsUptoSaid : Prop := journalAppendsUptoRow.holds Try.pinned (OpenSpec.upto journalAppendsSpec)

/-- 'postilionlaw40.JournalTears', WHERE WHAT IT READS IS OF BULK AT MOST 1048576: true; the input reads as it did. -/
def journalTearsUptoRow : OpenClaim := { program := "ytoaembpakmpolaa", sum := "b03235027d30407f85022fbfbaa0f3a2781596c072cfbbe7745d0ce4d2693d8a", func := "postilion/postilionlaw40.JournalTears", spec := "journalTears", unfollowed := true, recurses := true, apart := false, narrowed := true }
def JournalTearsUptoSaid : Prop := journalTearsUptoRow.holds Try.pinned (OpenSpec.upto journalTearsSpec)

/-- 'postilionlaw40.JournalTails', WHERE WHAT IT READS IS OF BULK AT MOST 1048576: true; the input reads as it did. -/
def journalTailsUptoRow : OpenClaim := { program := "ytoaembpakmpolaa", sum := "b03235027d30407f85022fbfbaa0f3a2781596c072cfbbe7745d0ce4d2693d8a", func := "postilion/postilionlaw40.JournalTails", spec := "journalTails", unfollowed := true, recurses := true, apart := false, narrowed := true }
def JournalTailsUptoSaid : Prop := journalTailsUptoRow.holds Try.pinned (OpenSpec.upto journalTailsSpec)

/-- 'postilionlaw40.JournalDamage', WHERE WHAT IT READS IS OF BULK AT MOST 1048576: true; the input reads as it did. -/
def journalDamageUptoRow : OpenClaim := { program := "ytoaembpakmpolaa", sum := "b03235027d30407f85022fbfbaa0f3a2781596c072cfbbe7745d0ce4d2693d8a", func := "postilion/postilionlaw40.JournalDamage", spec := "journalDamage", unfollowed := true, recurses := true, apart := false, narrowed := true }
def JournalDamageUptoSaid : Prop := journalDamageUptoRow.holds Try.pinned (OpenSpec.upto journalDamageSpec)

/-- 'postilionlaw40.JournalGoesOn', WHERE WHAT IT READS IS OF BULK AT MOST 1048576: true; the input reads as it did. -/
def journalGoesOnUptoRow : OpenClaim := { program := "ytoaembpakmpolaa", sum := "b03235027d30407f85022fbfbaa0f3a2781596c072cfbbe7745d0ce4d2693d8a", func := "postilion/postilionlaw40.JournalGoesOn", spec := "journalGoesOn", unfollowed := true, recurses := true, apart := false, narrowed := true }
def JournalGoesOnUptoSaid : Prop := journalGoesOnUptoRow.holds Try.pinned (OpenSpec.upto journalGoesOnSpec)

end Rows
end Go.Proofs.Ytoaembpakmpolaa
