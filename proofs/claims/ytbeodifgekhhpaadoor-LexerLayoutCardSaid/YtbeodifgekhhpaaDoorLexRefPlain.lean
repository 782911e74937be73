/-
  What the reference's functions on pieces compute: plain functions on lists of bytes.
-/
import Derived.Test.YtbeodifgekhhpaaDoorLexPlain
namespace Go.Proofs.YtbeodifgekhhpaaDoor.Lex
def refSymbols : List (List UInt8) := [[123], [125], [40], [41], [91], [93], [44], [59], [58], [61], [45, 62], [46], [45]]
def refSym (p : List UInt8) : Bool := refSymbols.any (· == p)
def midOk (c : UInt8) : Bool := decide (32 ≤ c.toNat) && decide (c.toNat ≤ 126) && decide (c.toNat ≠ 34)
def refQuoted (p : List UInt8) : Bool := decide (2 ≤ p.length) && decide (p.length ≤ 202) && decide ((p[0]?.getD 0).toNat = 34) && decide ((p[p.length - 1]?.getD 0).toNat = 34) && ((p.drop 1).take (p.length - 2)).all midOk
def refRun (p : List UInt8) : Nat :=
  if !p.all isWord then 0 else if p.length = 0 ∨ (p[0]?.getD 0).toNat = 95 then 0 else if p.all isDig ∧ p.length ≤ 8 then 2 else if ¬ p.all isDig ∧ p.length ≤ 20 then 1 else 0
def refKind (p : List UInt8) : Nat × List UInt8 := if refSym p then (3, p) else if refQuoted p then (4, (p.drop 1).take (p.length - 2)) else if refRun p = 0 then (0, []) else (refRun p, p)
end Go.Proofs.YtbeodifgekhhpaaDoor.Lex
