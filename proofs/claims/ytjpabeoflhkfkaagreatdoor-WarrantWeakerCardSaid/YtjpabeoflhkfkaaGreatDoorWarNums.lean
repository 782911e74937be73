/-
  The numbers of a certificate, one after the other, and the cut-offs day by day: plain Lean.
-/
import Derived.Test.YtjpabeoflhkfkaaGreatDoorWarKept
namespace Go.Proofs.YtjpabeoflhkfkaaGreatDoor

/-! The cut-offs day by day. -/
end Go.Proofs.YtjpabeoflhkfkaaGreatDoor
