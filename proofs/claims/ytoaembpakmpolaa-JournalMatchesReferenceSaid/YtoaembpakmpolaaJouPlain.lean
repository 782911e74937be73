/-
  The journal's functions in plain Lean: entries, their records, the writer's and the reader's steps.
-/
import Derived.Test.YtoaembpakmpolaaJouBase
namespace Go.Proofs.Ytoaembpakmpolaa
namespace Jou

structure Post where
  label : List UInt8
  frm : Int
  to : Int
  cls : Int
  acc : Int
structure Rec where
  scanner : Int
  number : Int
  kind : Int
  time : Int
  label : List UInt8
  contents : List (List UInt8)
structure Paper where
  sl : List UInt8
  frm : Int
  to : Int
  time : Int
  count : Int
  root : Int
  give : Int
  take : Int
  label : List UInt8
  index : Int
  path : List Int
structure Log where
  kind : Int
  n : Int
  text : List UInt8
  post : Post
  rcd : Rec
  paper : Paper
  cpost : Post
  due : Int
  amount : Int

/-- The number as an unsigned one, and back. -/
def ofI (n : Int) : Nat := (n % 18446744073709551616).toNat
def toI (n : Nat) : Int := if n < 9223372036854775808 then n else (n : Int) - 18446744073709551616
def byteAt (n k : Nat) : UInt8 := UInt8.ofNat (n / 256 ^ k)
def numB (n : Int) : List UInt8 := [byteAt (ofI n) 7, byteAt (ofI n) 6, byteAt (ofI n) 5, byteAt (ofI n) 4, byteAt (ofI n) 3, byteAt (ofI n) 2, byteAt (ofI n) 1, byteAt (ofI n) 0]
def numsB (ns : List Int) : List UInt8 := ns.flatMap numB
def lenB (n : Nat) : List UInt8 := [UInt8.ofNat (n / 256), UInt8.ofNat n]

/-- The writer: none where it is full. -/
def put (st : Option (List UInt8)) (b : List UInt8) : Option (List UInt8) :=
  match st with
  | none => none
  | some l => if l.length + b.length ≤ 3000 then some (l ++ b) else none
def lenW (st : Option (List UInt8)) (n : Nat) : Option (List UInt8) := if n ≤ 65535 then put st (lenB n) else none
def txtW (st : Option (List UInt8)) (s : List UInt8) : Option (List UInt8) := put (lenW st s.length) s
def txtsW (st : Option (List UInt8)) (ss : List (List UInt8)) : Option (List UInt8) := ss.foldl txtW st
def numsW (st : Option (List UInt8)) (ns : List Int) : Option (List UInt8) := put st (numsB ns)
def postW (st : Option (List UInt8)) (p : Post) : Option (List UInt8) := numsW (txtW st p.label) [p.frm, p.to, p.cls, p.acc]
def recW (st : Option (List UInt8)) (r : Rec) : Option (List UInt8) :=
  txtsW (lenW (txtW (numsW st [r.scanner, r.number, r.kind, r.time]) r.label) r.contents.length) r.contents
def paperW (st : Option (List UInt8)) (p : Paper) : Option (List UInt8) :=
  numsW (lenW (numsW (txtW (numsW (txtW st p.sl) [p.frm, p.to, p.time, p.count, p.root, p.give, p.take]) p.label) [p.index]) p.path.length) p.path
def logW (e : Log) : Option (List UInt8) :=
  numsW (postW (paperW (recW (postW (txtW (numsW (put (some []) [UInt8.ofNat e.kind.toNat]) [e.n]) e.text) e.post) e.rcd) e.paper) e.cpost) [e.due, e.amount]
def encode (e : Log) : Option (List UInt8) := if e.kind < 1 ∨ 8 < e.kind then none else logW e

def Fits (st : Option (List UInt8)) : Prop := ∀ l, st = some l → l.length ≤ 3000
theorem put_none (b : List UInt8) : put none b = none := rfl
theorem put_fits (st : Option (List UInt8)) (b : List UInt8) : Fits (put st b) := by
  intro l h
  unfold put at h
  split at h
  · cases h
  · split at h
    · cases h; simpa using by assumption
    · cases h
theorem put_put (st : Option (List UInt8)) (a b : List UInt8) : put (put st a) b = put st (a ++ b) := by
  cases st with
  | none => rfl
  | some l =>
    unfold put
    by_cases h : l.length + a.length ≤ 3000
    · simp [h, Nat.add_assoc]
    · have : ¬ l.length + (a.length + b.length) ≤ 3000 := by omega
      simp [h, this]
theorem put_nil (st : Option (List UInt8)) (h : Fits st) : put st [] = st := by
  cases st with
  | none => rfl
  | some l => have := h l rfl; simp [put, this]
theorem lenW_fits (st : Option (List UInt8)) (n : Nat) : Fits (lenW st n) := by
  unfold lenW
  split
  · exact put_fits _ _
  · intro l h; cases h
theorem lenW_none (n : Nat) : lenW none n = none := by unfold lenW; split <;> rfl
theorem txtW_none (s : List UInt8) : txtW none s = none := by unfold txtW; rw [lenW_none]; rfl
theorem txtsW_none (ss : List (List UInt8)) : txtsW none ss = none := by
  induction ss with
  | nil => rfl
  | cons s r ih => show txtsW (txtW none s) r = none; rw [txtW_none]; exact ih
theorem txtsW_fits (st : Option (List UInt8)) (h : Fits st) (ss : List (List UInt8)) : Fits (txtsW st ss) := by
  induction ss generalizing st with
  | nil => exact h
  | cons s r ih => exact ih _ (put_fits _ _)
theorem numsW_none (ns : List Int) : numsW none ns = none := rfl

/-- The reader: what is left. -/
def be (l : List UInt8) : Nat := l.foldl (fun a b => a * 256 + b.toNat) 0
def takeP (n : Nat) (l : List UInt8) : Option (List UInt8 × List UInt8) := if n ≤ l.length then some (l.take n, l.drop n) else none
def numP (l : List UInt8) : Option (Int × List UInt8) := if 8 ≤ l.length then some (toI (be (l.take 8)), l.drop 8) else none
def lenP (l : List UInt8) : Option (Nat × List UInt8) := if 2 ≤ l.length then some (be (l.take 2), l.drop 2) else none
def txtP (l : List UInt8) : Option (List UInt8 × List UInt8) :=
  match lenP l with
  | none => none
  | some (n, l) => takeP n l
def txtsP : Nat → List UInt8 → Option (List (List UInt8) × List UInt8)
  | 0, l => some ([], l)
  | n + 1, l =>
    match txtP l with
    | none => none
    | some (s, l) =>
      match txtsP n l with
      | none => none
      | some (r, l) => some (s :: r, l)
def numsP : Nat → List UInt8 → Option (List Int × List UInt8)
  | 0, l => some ([], l)
  | n + 1, l =>
    match numP l with
    | none => none
    | some (s, l) =>
      match numsP n l with
      | none => none
      | some (r, l) => some (s :: r, l)
def postP (l : List UInt8) : Option (Post × List UInt8) := do
  let (label, l) ← txtP l
  let (frm, l) ← numP l
  let (to, l) ← numP l
  let (cls, l) ← numP l
  let (acc, l) ← numP l
  some (⟨label, frm, to, cls, acc⟩, l)
def recP (l : List UInt8) : Option (Rec × List UInt8) := do
  let (scanner, l) ← numP l
  let (number, l) ← numP l
  let (kind, l) ← numP l
  let (time, l) ← numP l
  let (label, l) ← txtP l
  let (n, l) ← lenP l
  let (contents, l) ← txtsP n l
  some (⟨scanner, number, kind, time, label, contents⟩, l)
def paperP (l : List UInt8) : Option (Paper × List UInt8) := do
  let (sl, l) ← txtP l
  let (frm, l) ← numP l
  let (to, l) ← numP l
  let (time, l) ← numP l
  let (count, l) ← numP l
  let (root, l) ← numP l
  let (give, l) ← numP l
  let (take, l) ← numP l
  let (label, l) ← txtP l
  let (index, l) ← numP l
  let (n, l) ← lenP l
  let (path, l) ← numsP n l
  some (⟨sl, frm, to, time, count, root, give, take, label, index, path⟩, l)
def logP (l : List UInt8) : Option Log :=
  match l with
  | [] => none
  | k :: l =>
    if k.toNat < 1 ∨ 8 < k.toNat then none else do
    let (n, l) ← numP l
    let (text, l) ← txtP l
    let (post, l) ← postP l
    let (rcd, l) ← recP l
    let (paper, l) ← paperP l
    let (cpost, l) ← postP l
    let (due, l) ← numP l
    let (amount, l) ← numP l
    if l.length > 0 then none else some ⟨k.toNat, n, text, post, rcd, paper, cpost, due, amount⟩
def decode (b : List UInt8) : Option Log := if b.length > 3000 then none else logP b
end Jou
end Go.Proofs.Ytoaembpakmpolaa
