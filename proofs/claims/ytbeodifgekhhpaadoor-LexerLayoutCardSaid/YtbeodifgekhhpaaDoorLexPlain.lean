/-
  Plain functions that say what package lexer computes, on lists of bytes; no program in sight.
-/
namespace Go.Proofs.YtbeodifgekhhpaaDoor.Lex

def isDig (c : UInt8) : Bool := decide (48 ≤ c.toNat) && decide (c.toNat ≤ 57)
def isWord (c : UInt8) : Bool := (decide (65 ≤ c.toNat) && decide (c.toNat ≤ 90)) || (decide (97 ≤ c.toNat) && decide (c.toNat ≤ 122)) || decide (c.toNat = 95) || isDig c

/-- The length of the run at the beginning, and its digits. -/
def runLen : List UInt8 → Nat
  | [] => 0
  | c :: r => if isWord c then runLen r + 1 else 0
def runDig : List UInt8 → Nat
  | [] => 0
  | c :: r => if isWord c then (if isDig c then runDig r + 1 else runDig r) else 0
theorem runLen_le (l : List UInt8) : runLen l ≤ l.length := by
  induction l with
  | nil => simp [runLen]
  | cons c r ih => simp only [runLen, List.length_cons]; split <;> omega
theorem runDig_le (l : List UInt8) : runDig l ≤ runLen l := by
  induction l with
  | nil => simp [runLen, runDig]
  | cons c r ih => simp only [runLen, runDig]; split <;> (try split) <;> omega

def numLen (l : List UInt8) : Nat := if runDig l ≠ runLen l ∨ 8 < runLen l then 0 else runLen l
def nameLen (l : List UInt8) : Nat := if runDig l = runLen l ∨ 20 < runLen l ∨ (l.headD 0).toNat = 95 then 0 else runLen l

/-- The scan for the closing quotation mark from offset i on. -/
def txtGo (i : Nat) : List UInt8 → Nat
  | [] => 0
  | c :: r => if 201 < i then 0 else if c.toNat = 34 then i + 1 else if c.toNat < 32 ∨ 126 < c.toNat then 0 else txtGo (i + 1) r
def textLen (l : List UInt8) : Nat :=
  match l with
  | [] => 0
  | c :: r => if c.toNat = 34 then txtGo 1 r else 0

def symbols : List (List UInt8) := [[45, 62], [123], [125], [40], [41], [91], [93], [44], [59], [58], [61], [46], [45]]
/-- The first of some texts with which a text begins: its length. -/
def firstPre (l : List UInt8) : List (List UInt8) → Nat
  | [] => 0
  | s :: r => if s.isPrefixOf l then s.length else firstPre l r
def symLen (l : List UInt8) : Nat := firstPre l symbols

/-- The length of the gap at the beginning; the flag: inside a comment. -/
def gapLen : Bool → List UInt8 → Nat
  | _, [] => 0
  | false, c :: r => if c.toNat = 32 ∨ c.toNat = 9 ∨ c.toNat = 10 ∨ c.toNat = 13 then gapLen false r + 1 else if c.toNat = 37 then gapLen true r + 1 else 0
  | true, c :: r => if c.toNat = 10 then gapLen false r + 1 else gapLen true r + 1
theorem gapLen_le (b : Bool) (l : List UInt8) : gapLen b l ≤ l.length := by
  induction l generalizing b with
  | nil => cases b <;> simp [gapLen]
  | cons c r ih =>
    have h1 := ih true
    have h2 := ih false
    cases b <;> simp only [gapLen, List.length_cons]
    · split <;> (try split) <;> omega
    · split <;> omega

structure Tok where
  kind : Nat
  text : List UInt8
  at_ : Nat

/-- The kind and the length of the token with which a text begins. -/
def tokLen (l : List UInt8) : Option (Nat × Nat) :=
  if 0 < numLen l then some (2, numLen l) else if 0 < nameLen l then some (1, nameLen l) else if 0 < textLen l then some (4, textLen l) else if 0 < symLen l then some (3, symLen l) else none
def tokText (k : Nat) (p : List UInt8) : List UInt8 := if k = 4 then (p.drop 1).take (p.length - 2) else p

/-- The offset behind the gap at an offset. -/
def skipF (l : List UInt8) (k : Nat) : Nat := k + gapLen false (l.drop k)
/-- The loop: from offset i on (l: the whole text), the tokens that have been found. -/
def lexAcc (l : List UInt8) : Nat → Nat → List Tok → Except (Nat × Nat) (List Tok)
  | 0, _, acc => .ok acc
  | fuel + 1, i, acc =>
    if skipF l i = l.length then .ok acc
    else if acc.length = 3000 then .error (2, skipF l i)
    else match tokLen (l.drop (skipF l i)) with
      | none => .error (30, skipF l i)
      | some (k, m) => lexAcc l fuel (skipF l i + m) (acc ++ [⟨k, tokText k ((l.drop (skipF l i)).take m), skipF l i⟩])
def lexF (l : List UInt8) : Except (Nat × Nat) (List Tok) := if 8000 < l.length then .error (2, 8000) else lexAcc l (l.length + 1) 0 []

theorem numLen_le (l : List UInt8) : numLen l ≤ l.length := by
  have := runLen_le l
  unfold numLen; split <;> omega
theorem nameLen_le (l : List UInt8) : nameLen l ≤ l.length := by
  have := runLen_le l
  unfold nameLen; split <;> omega
theorem txtGo_le (i : Nat) (l : List UInt8) : txtGo i l = 0 ∨ (i + 1 ≤ txtGo i l ∧ txtGo i l ≤ i + l.length) := by
  induction l generalizing i with
  | nil => simp [txtGo]
  | cons c r ih =>
    simp only [txtGo, List.length_cons]
    split
    · omega
    · split
      · omega
      · split
        · omega
        · rcases ih (i + 1) with h | h <;> omega
theorem textLen_le (l : List UInt8) : textLen l ≤ l.length ∧ (0 < textLen l → 2 ≤ textLen l) := by
  cases l with
  | nil => simp [textLen]
  | cons c r =>
    simp only [textLen, List.length_cons]
    split
    · rcases txtGo_le 1 r with h | h <;> omega
    · omega
theorem firstPre_le (l : List UInt8) (ss : List (List UInt8)) : firstPre l ss ≤ l.length := by
  induction ss with
  | nil => simp [firstPre]
  | cons s r ih =>
    simp only [firstPre]
    split
    · rename_i h
      exact (List.isPrefixOf_iff_prefix.1 h).length_le
    · exact ih
theorem symLen_le (l : List UInt8) : symLen l ≤ l.length := firstPre_le l _

end Go.Proofs.YtbeodifgekhhpaaDoor.Lex
