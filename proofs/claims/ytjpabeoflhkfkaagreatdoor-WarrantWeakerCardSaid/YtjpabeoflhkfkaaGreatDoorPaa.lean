/-
  Networks, calendars and times in plain Lean. Distances between offices in plain Lean: the survey's relaxation is exact. The walk over survey.relaxed's closure: one way between two offices made shorter. Seals of numbers, in plain Lean: another number at one place gives another seal.
-/
import Derived.Test.YtjpabeoflhkfkaaGreatDoorPa
namespace Go.Proofs.YtjpabeoflhkfkaaGreatDoor
open Go.RowKit

def I64 (n : Int) : Prop := -9223372036854775808 ≤ n ∧ n ≤ 9223372036854775807
/-- A calendar, and where its lists lie. -/
structure Cal where
  zone : Int
  week : List Bool
  wA : Option Addr
  wc : Nat
  hol : List Int
  hA : Option Addr
  hc : Nat
structure Off where
  name : List UInt8
  op : Int
  cal : Int
  pockets : Int
  passes : Int
  minutes : Int
  codes : List (List UInt8)
  cA : Option Addr
  cc : Nat
structure Lin where
  name : List UInt8
  frm : Int
  to : Int
  at_ : Int
  travel : Int
  load : Int
structure Cls where
  name : List UInt8
  cut : Int
  deliver : Int
structure Net where
  cals : List Cal
  calA : Option Addr
  calC : Nat
  names : List (List UInt8)
  namA : Option Addr
  namC : Nat
  ops : List (List UInt8)
  opA : Option Addr
  opC : Nat
  offs : List Off
  offA : Option Addr
  offC : Nat
  lins : List Lin
  linA : Option Addr
  linC : Nat
  clss : List Cls
  clsA : Option Addr
  clsC : Nat
abbrev oV (b : Bool) : Value := .bool b
def encCal (c : Cal) : List Value := [iV c.zone, .slice c.wA c.week.length c.wc, .slice c.hA c.hol.length c.hc]
abbrev calV (c : Cal) : Value := .agg #[iV c.zone, .slice c.wA c.week.length c.wc, .slice c.hA c.hol.length c.hc]
def encOff (o : Off) : List Value := [sV o.name, iV o.op, iV o.cal, iV o.pockets, iV o.passes, iV o.minutes, .slice o.cA o.codes.length o.cc]
abbrev offV (o : Off) : Value := .agg #[sV o.name, iV o.op, iV o.cal, iV o.pockets, iV o.passes, iV o.minutes, .slice o.cA o.codes.length o.cc]
def encLin (l : Lin) : List Value := [sV l.name, iV l.frm, iV l.to, iV l.at_, iV l.travel, iV l.load]
abbrev linV (l : Lin) : Value := .agg #[sV l.name, iV l.frm, iV l.to, iV l.at_, iV l.travel, iV l.load]
def encCls (k : Cls) : List Value := [sV k.name, iV k.cut, iV k.deliver]
abbrev clsV (k : Cls) : Value := .agg #[sV k.name, iV k.cut, iV k.deliver]
def netCells (n : Net) : Array Value := #[.slice n.calA n.cals.length n.calC, .slice n.namA n.names.length n.namC, .slice n.opA n.ops.length n.opC, .slice n.offA n.offs.length n.offC, .slice n.linA n.lins.length n.linC, .slice n.clsA n.clss.length n.clsC]
theorem encCal_len (c : Cal) : (encCal c).length = 3 := rfl
theorem encOff_len (o : Off) : (encOff o).length = 7 := rfl
theorem encLin_len (l : Lin) : (encLin l).length = 6 := rfl
theorem encCls_len (k : Cls) : (encCls k).length = 3 := rfl
/-- The i-th element of a row of elements of k cells, cell by cell. -/
theorem flat_get {α : Type} (f : α → List Value) (k : Nat) (hk : ∀ x, (f x).length = k) : ∀ (l : List α) (i j : Nat) (_ : i < l.length) (_ : j < k), (l.flatMap f)[i * k + j]? = (f (l[i]'(by assumption)))[j]?
  | x :: l, 0, j, _, hj => by
    rw [List.flatMap_cons, Nat.zero_mul, Nat.zero_add, List.getElem?_append_left (by rw [hk]; exact hj)]
    rfl
  | x :: l, i + 1, j, hi, hj => by
    have hi' : i < l.length := by simpa using hi
    rw [List.flatMap_cons, List.getElem?_append_right (by rw [hk, Nat.succ_mul]; omega), hk, show (i + 1) * k + j - k = i * k + j by rw [Nat.succ_mul]; omega, flat_get f k hk l i j hi' hj]
    rfl
def CalIn (w : World) (c : Cal) : Prop := I64 c.zone ∧ Rd w c.wA (c.week.map oV) ∧ Rd w c.hA (c.hol.map iV) ∧ (∀ n ∈ c.hol, I64 n) ∧ c.week.length ≤ maxLen ∧ c.hol.length ≤ maxLen
theorem CalIn.below {w w' : World} {c : Cal} (h : CalIn w c) (hb : Below w.heap.size w w') : CalIn w' c := ⟨h.1, h.2.1.below hb, h.2.2.1.below hb, h.2.2.2⟩
def OffIn (w : World) (o : Off) : Prop := (o.name.length ≤ maxLen ∧ I64 o.op ∧ I64 o.cal ∧ I64 o.pockets ∧ I64 o.passes ∧ I64 o.minutes) ∧ Rd w o.cA (o.codes.map sV) ∧ (∀ s ∈ o.codes, s.length ≤ maxLen) ∧ o.codes.length ≤ maxLen
theorem OffIn.below {w w' : World} {o : Off} (h : OffIn w o) (hb : Below w.heap.size w w') : OffIn w' o := ⟨h.1, h.2.1.below hb, h.2.2⟩
def LinIn (l : Lin) : Prop := l.name.length ≤ maxLen ∧ I64 l.frm ∧ I64 l.to ∧ I64 l.at_ ∧ I64 l.travel ∧ I64 l.load
def ClsIn (k : Cls) : Prop := k.name.length ≤ maxLen ∧ I64 k.cut ∧ I64 k.deliver
/-- A network that is read. -/
structure NetIn (w : World) (n : Net) : Prop where
  cals : Rd w n.calA (n.cals.flatMap encCal)
  cal : ∀ c ∈ n.cals, CalIn w c
  names : Rd w n.namA (n.names.map sV)
  name : ∀ s ∈ n.names, s.length ≤ maxLen
  ops : Rd w n.opA (n.ops.map sV)
  op : ∀ s ∈ n.ops, s.length ≤ maxLen
  offs : Rd w n.offA (n.offs.flatMap encOff)
  off : ∀ o ∈ n.offs, OffIn w o
  lins : Rd w n.linA (n.lins.flatMap encLin)
  lin : ∀ l ∈ n.lins, LinIn l
  clss : Rd w n.clsA (n.clss.flatMap encCls)
  cls : ∀ k ∈ n.clss, ClsIn k
  lens : n.cals.length ≤ maxLen ∧ n.names.length ≤ maxLen ∧ n.ops.length ≤ maxLen ∧ n.offs.length ≤ maxLen ∧ n.lins.length ≤ maxLen ∧ n.clss.length ≤ maxLen
theorem NetIn.below {w w' : World} {n : Net} (h : NetIn w n) (hb : Below w.heap.size w w') : NetIn w' n :=
  ⟨h.cals.below hb, fun c hc => (h.cal c hc).below hb, h.names.below hb, h.name, h.ops.below hb, h.op, h.offs.below hb, fun o ho => (h.off o ho).below hb, h.lins.below hb, h.lin, h.clss.below hb, h.cls, h.lens⟩
/-- The cells of an element, where its row is read. -/
theorem Rd.elem {α : Type} {f : α → List Value} {k : Nat} (hk : ∀ x, (f x).length = k) {w : World} {A : Option Addr} {l : List α} (h : Rd w A (l.flatMap f)) {i : Nat} (hi : i < l.length) (hk0 : 0 < k) :
    ∃ b off, A = some ⟨b, off, none⟩ ∧ b < w.heap.size ∧ ∀ j v, (f l[i])[j]? = some v → w.cell? ⟨b, off + (i * k + j), none⟩ = some v := by
  have hg := flat_get f k hk l i 0 hi hk0
  have hlt : i * k + 0 < (l.flatMap f).length := by
    rcases Nat.lt_or_ge (i * k + 0) (l.flatMap f).length with h1 | h1
    · exact h1
    · rw [List.getElem?_eq_none h1] at hg
      have := List.getElem?_eq_none_iff.1 hg.symm
      rw [hk] at this
      omega
  obtain ⟨b, off, rfl, hb, hc⟩ := h.get hlt
  refine ⟨b, off, rfl, hb, fun j v hj => hc _ v ?_⟩
  have hjk : j < k := by
    rcases Nat.lt_or_ge j k with h1 | h1
    · exact h1
    · rw [List.getElem?_eq_none (by rw [hk]; exact h1)] at hj; cases hj
  rw [flat_get f k hk l i j hi hjk]
  exact hj

/-! Calendars -/
def upB : List Int → Bool
  | a :: b :: l => decide (a < b) && upB (b :: l)
  | _ => true
def calB (c : Cal) : Bool := decide (-720 ≤ c.zone) && decide (c.zone ≤ 840) && decide (c.week.length = 7) && decide (c.hol.length ≤ 40) && upB c.hol
def workB (c : Cal) (d : Int) : Bool := c.week.getD (d % 7).toNat false && !decide (d ∈ c.hol)
def dayR (d : Int) : Bool := decide (-1000000 ≤ d) && decide (d ≤ 1000000)
/-- The first of some days that is a working day. -/
def nextW (c : Cal) : Nat → Int → Option Int
  | 0, _ => none
  | n + 1, d => if workB c d then some d else nextW c n (d + 1)
def nextR (c : Cal) (d : Int) : Int × Int := match nextW c 60 d with
  | some x => (x, 0)
  | none => (0, 20)
def addR (c : Cal) : Nat → Int → Option Int
  | 0, d => some d
  | n + 1, d => (nextW c 60 (d + 1)).bind (addR c n)
def dayOf (c : Cal) (t : Int) : Int := (t + c.zone) / 1440
def minOf (c : Cal) (t : Int) : Int := (t + c.zone) % 1440
def timeOf (c : Cal) (d m : Int) : Int := d * 1440 + m - c.zone
/-- The first time of a minute from a time on. -/
def firstR (c : Cal) (m t : Int) : Int × Int :=
  match nextW c 60 (if m < minOf c t then dayOf c t + 1 else dayOf c t) with
  | some d => (timeOf c d m, 0)
  | none => (0, 20)
theorem calB_zone {c : Cal} (h : calB c = true) : -720 ≤ c.zone ∧ c.zone ≤ 840 ∧ c.week.length = 7 ∧ c.hol.length ≤ 40 ∧ upB c.hol = true := by
  unfold calB at h
  simpa [and_assoc] using h
theorem upB_sorted : ∀ {l : List Int}, upB l = true → l.Pairwise (· < ·)
  | [], _ => List.Pairwise.nil
  | [a], _ => List.pairwise_singleton _ _
  | a :: b :: l, h => by
    simp only [upB, Bool.and_eq_true, decide_eq_true_eq] at h
    have ih := upB_sorted h.2
    refine List.pairwise_cons.2 ⟨fun x hx => ?_, ih⟩
    rcases List.mem_cons.1 hx with rfl | hx
    · exact h.1
    · have := (List.pairwise_cons.1 ih).1 x hx
      omega
theorem nextW_some {c : Cal} : ∀ {n : Nat} {d x : Int}, nextW c n d = some x → d ≤ x ∧ x < d + n ∧ workB c x = true ∧ ∀ y, d ≤ y → y < x → workB c y = false
  | n + 1, d, x, h => by
    simp only [nextW] at h
    by_cases hw : workB c d = true
    · rw [if_pos hw] at h
      cases h
      exact ⟨Int.le_refl _, by omega, hw, fun y h1 h2 => by omega⟩
    · rw [if_neg hw] at h
      obtain ⟨h1, h2, h3, h4⟩ := nextW_some h
      refine ⟨by omega, by omega, h3, fun y h5 h6 => ?_⟩
      by_cases hy : y = d
      · subst hy; simpa using hw
      · exact h4 y (by omega) h6
end Go.Proofs.YtjpabeoflhkfkaaGreatDoor
namespace Go.Proofs.YtjpabeoflhkfkaaGreatDoor
open Go.RowKit

abbrev Mat := Nat → Nat → Int
def updM (M : Mat) (a b : Nat) (L : Int) : Mat := fun x y => if x = a ∧ y = b then L else M x y
def relaxM (M : Mat) (a b : Nat) (L : Int) : Mat := if M a b = -1 ∨ L < M a b then updM M a b L else M
def stepM (k a : Nat) (M : Mat) (b : Nat) : Mat := if M a k ≠ -1 ∧ M k b ≠ -1 then relaxM M a b (M a k + M k b) else M
def rowM (k a m : Nat) (M : Mat) : Mat := (List.range m).foldl (stepM k a) M
def stageM (k m : Nat) (M : Mat) : Mat := (List.range m).foldl (fun M a => rowM k a 12 M) M
def allM (m : Nat) (M : Mat) : Mat := (List.range m).foldl (fun M k => stageM k 12 M) M
def zeroM : Mat := fun a b => if a = b then 0 else -1
def edgesM (es : List (Nat × Nat × Int)) : Mat := es.foldl (fun M e => relaxM M e.1 e.2.1 e.2.2) zeroM
theorem rowM_succ (k a m : Nat) (M : Mat) : rowM k a (m + 1) M = stepM k a (rowM k a m M) m := by simp [rowM, List.range_succ]
theorem stageM_succ (k m : Nat) (M : Mat) : stageM k (m + 1) M = rowM k m 12 (stageM k m M) := by simp [stageM, List.range_succ]
theorem allM_succ (m : Nat) (M : Mat) : allM (m + 1) M = stageM m 12 (allM m M) := by simp [allM, List.range_succ]
/-- Walks along edges, and how long they are. -/
inductive Wlk (es : List (Nat × Nat × Int)) : Nat → Nat → Int → Prop
  | nil (a : Nat) : Wlk es a a 0
  | cons {a b c : Nat} {L K : Int} (h : (a, b, L) ∈ es) (t : Wlk es b c K) : Wlk es a c (L + K)
theorem Wlk.trans {es : List (Nat × Nat × Int)} {a b c : Nat} {L K : Int} (h : Wlk es a b L) (k : Wlk es b c K) : Wlk es a c (L + K) := by
  induction h with
  | nil a => simpa using k
  | cons h t ih => have := Wlk.cons h (ih k); rwa [Int.add_assoc]
/-- Walks by way of the first k offices. -/
def Dk (es : List (Nat × Nat × Int)) : Nat → Nat → Nat → Int → Prop
  | 0, a, b, L => (a = b ∧ L = 0) ∨ (a, b, L) ∈ es
  | k + 1, a, b, L => Dk es k a b L ∨ ∃ L1 L2, Dk es k a k L1 ∧ Dk es k k b L2 ∧ L = L1 + L2
/-- Edges are between the twelve offices, and no longer than B. -/
def EdgesIn (es : List (Nat × Nat × Int)) (B : Int) : Prop := ∀ e ∈ es, e.1 < 12 ∧ e.2.1 < 12 ∧ 0 ≤ e.2.2 ∧ e.2.2 ≤ B
theorem Dk.nonneg {es : List (Nat × Nat × Int)} {B : Int} (he : EdgesIn es B) : ∀ {k a b : Nat} {L : Int}, Dk es k a b L → 0 ≤ L
  | 0, a, b, L, h => by
    rcases h with ⟨_, rfl⟩ | h
    · exact Int.le_refl _
    · exact (he _ h).2.2.1
  | k + 1, a, b, L, h => by
    rcases h with h | ⟨L1, L2, h1, h2, rfl⟩
    · exact Dk.nonneg he h
    · have := Dk.nonneg he h1
      have := Dk.nonneg he h2
      omega
theorem Dk.up {es : List (Nat × Nat × Int)} {a b : Nat} {L : Int} : ∀ {k m : Nat}, k ≤ m → Dk es k a b L → Dk es m a b L
  | k, 0, hk, h => by obtain rfl : k = 0 := by omega
                      exact h
  | k, m + 1, hk, h => by
    rcases Nat.lt_or_ge m k with h1 | h1
    · obtain rfl : k = m + 1 := by omega
      exact h
    · exact .inl (Dk.up h1 h)
def Pk (es : List (Nat × Nat × Int)) (k a b : Nat) (L : Int) : Prop := ∃ K, K ≤ L ∧ Dk es k a b K
theorem Pk.of {es : List (Nat × Nat × Int)} {k a b : Nat} {L : Int} (h : Dk es k a b L) : Pk es k a b L := ⟨L, Int.le_refl _, h⟩
theorem Pk.le {es : List (Nat × Nat × Int)} {k a b : Nat} {L K : Int} (h : Pk es k a b L) (hk : L ≤ K) : Pk es k a b K := by
  obtain ⟨X, h1, h2⟩ := h
  exact ⟨X, by omega, h2⟩
theorem Pk.succ {es : List (Nat × Nat × Int)} {k a b : Nat} {L : Int} (h : Pk es k a b L) : Pk es (k + 1) a b L := by
  obtain ⟨X, h1, h2⟩ := h
  exact ⟨X, h1, .inl h2⟩
theorem Pk.via {es : List (Nat × Nat × Int)} {k a b : Nat} {L K : Int} (h : Pk es k a k L) (g : Pk es k k b K) : Pk es (k + 1) a b (L + K) := by
  obtain ⟨X, h1, h2⟩ := h
  obtain ⟨Y, g1, g2⟩ := g
  exact ⟨X + Y, by omega, .inr ⟨X, Y, h2, g2, rfl⟩⟩
theorem Pk.nonneg {es : List (Nat × Nat × Int)} {B : Int} (he : EdgesIn es B) {k a b : Nat} {L : Int} (h : Pk es k a b L) : 0 ≤ L := by
  obtain ⟨X, h1, h2⟩ := h
  have := h2.nonneg he
  omega
theorem Pk.trans {es : List (Nat × Nat × Int)} {B : Int} (he : EdgesIn es B) {c : Nat} : ∀ {k a b : Nat} {L K : Int}, c < k → Pk es k a c L → Pk es k c b K → Pk es k a b (L + K)
  | 0, _, _, _, _, hc, _, _ => by omega
  | k + 1, a, b, L, K, hc, ⟨X, hX, hx⟩, ⟨Y, hY, hy⟩ => by
    by_cases hck : c = k
    · subst hck
      have p1 : Pk es c a c L := by
        rcases hx with hx | ⟨X1, X2, x1, x2, rfl⟩
        · exact ⟨X, hX, hx⟩
        · exact ⟨X1, by have := x2.nonneg he; omega, x1⟩
      have p2 : Pk es c c b K := by
        rcases hy with hy | ⟨Y1, Y2, y1, y2, rfl⟩
        · exact ⟨Y, hY, hy⟩
        · exact ⟨Y2, by have := y1.nonneg he; omega, y2⟩
      exact p1.via p2
    · have hlt : c < k := by omega
      rcases hx with hx | ⟨X1, X2, x1, x2, rfl⟩
      · rcases hy with hy | ⟨Y1, Y2, y1, y2, rfl⟩
        · exact (Pk.trans he hlt ⟨X, hX, hx⟩ ⟨Y, hY, hy⟩).succ
        · have h1 := Pk.trans he hlt ⟨X, hX, hx⟩ (Pk.of y1)
          exact (h1.via (Pk.of y2)).le (by omega)
      · rcases hy with hy | ⟨Y1, Y2, y1, y2, rfl⟩
        · have h1 := Pk.trans he hlt (Pk.of x2) ⟨Y, hY, hy⟩
          exact ((Pk.of x1).via h1).le (by omega)
        · have := x2.nonneg he
          have := y1.nonneg he
          exact ((Pk.of x1).via (Pk.of y2)).le (by omega)
theorem Wlk.pk {es : List (Nat × Nat × Int)} {B : Int} (he : EdgesIn es B) {a b : Nat} {L : Int} (h : Wlk es a b L) : Pk es 12 a b L := by
  induction h with
  | nil a => exact Pk.of (Dk.up (k := 0) (by omega) (.inl ⟨rfl, rfl⟩))
  | cons h t ih => exact Pk.trans he (he _ h).2.1 (Pk.of (Dk.up (k := 0) (by omega) (.inr h))) ih
structure OkM (es : List (Nat × Nat × Int)) (B : Int) (M : Mat) : Prop where
  diag : ∀ a, M a a = 0
  rng : ∀ a b, M a b = -1 ∨ 0 ≤ M a b ∧ M a b ≤ B
  snd : ∀ a b, M a b ≠ -1 → Wlk es a b (M a b)
theorem upd_same (M : Mat) (a b : Nat) (L : Int) : updM M a b L a b = L := by simp [updM]
theorem upd_other (M : Mat) {a b x y : Nat} (L : Int) (h : ¬ (x = a ∧ y = b)) : updM M a b L x y = M x y := by simp [updM, h]
theorem OkM.mono {es : List (Nat × Nat × Int)} {B C : Int} {M : Mat} (h : OkM es B M) (hc : B ≤ C) : OkM es C M :=
  ⟨h.diag, fun a b => (h.rng a b).imp id fun ⟨p, q⟩ => ⟨p, by omega⟩, h.snd⟩
theorem OkM.relax {es : List (Nat × Nat × Int)} {B : Int} {M : Mat} (h : OkM es B M) {a b : Nat} {L : Int} (h0 : 0 ≤ L) (hB : L ≤ B) (hw : Wlk es a b L) : OkM es B (relaxM M a b L) := by
  unfold relaxM
  split
  case isFalse => exact h
  case isTrue hc =>
    refine ⟨fun x => ?_, fun x y => ?_, fun x y hne => ?_⟩
    · by_cases hx : x = a ∧ x = b
      · obtain ⟨rfl, rfl⟩ := hx
        have := h.diag x
        exfalso
        rcases hc with hc | hc <;> omega
      · rw [upd_other _ _ hx]; exact h.diag x
    · by_cases hx : x = a ∧ y = b
      · obtain ⟨rfl, rfl⟩ := hx
        rw [upd_same]; exact .inr ⟨h0, hB⟩
      · rw [upd_other _ _ hx]; exact h.rng x y
    · by_cases hx : x = a ∧ y = b
      · obtain ⟨rfl, rfl⟩ := hx
        rw [upd_same]; exact hw
      · rw [upd_other _ _ hx] at hne ⊢; exact h.snd x y hne
theorem relax_le (M : Mat) (a b : Nat) (L : Int) (h0 : 0 ≤ L) (x y : Nat) : M x y ≠ -1 → relaxM M a b L x y ≠ -1 ∧ relaxM M a b L x y ≤ M x y := by
  intro h
  unfold relaxM
  split
  case isFalse => exact ⟨h, Int.le_refl _⟩
  case isTrue hc =>
    by_cases hx : x = a ∧ y = b
    · obtain ⟨rfl, rfl⟩ := hx
      rw [upd_same]
      rcases hc with hc | hc
      · exact absurd hc h
      · exact ⟨by omega, by omega⟩
    · rw [upd_other _ _ hx]; exact ⟨h, Int.le_refl _⟩
theorem relax_at (M : Mat) (a b : Nat) (L : Int) (h0 : 0 ≤ L) : relaxM M a b L a b ≠ -1 ∧ relaxM M a b L a b ≤ L := by
  unfold relaxM
  split
  case isFalse hc => exact ⟨fun h => hc (.inl h), by rcases Int.lt_or_le L (M a b) with h | h
                                                     · exact absurd (.inr h) hc
                                                     · exact h⟩
  case isTrue hc => rw [upd_same]; exact ⟨by omega, Int.le_refl _⟩
/-- What the first edges leave. -/
theorem edges_ok {es : List (Nat × Nat × Int)} {B : Int} (hB : 0 ≤ B) (he : EdgesIn es B) : OkM es B (edgesM es) ∧ ∀ a b L, Dk es 0 a b L → edgesM es a b ≠ -1 ∧ edgesM es a b ≤ L := by
  have key : ∀ (fs ds : List (Nat × Nat × Int)) (M : Mat), (∀ e ∈ fs, e ∈ es) → OkM es B M → (∀ a b L, (a = b ∧ L = 0) ∨ (a, b, L) ∈ ds → M a b ≠ -1 ∧ M a b ≤ L) →
      OkM es B (fs.foldl (fun M e => relaxM M e.1 e.2.1 e.2.2) M) ∧ ∀ a b L, (a = b ∧ L = 0) ∨ (a, b, L) ∈ ds ++ fs → fs.foldl (fun M e => relaxM M e.1 e.2.1 e.2.2) M a b ≠ -1 ∧ fs.foldl (fun M e => relaxM M e.1 e.2.1 e.2.2) M a b ≤ L := by
    intro fs
    induction fs with
    | nil => intro ds M _ hM hd; simpa using ⟨hM, hd⟩
    | cons e fs ih =>
      intro ds M hfs hM hd
      have hee := he e (hfs e (by simp))
      have hw : Wlk es e.1 e.2.1 e.2.2 := by
        have := Wlk.cons (es := es) (a := e.1) (b := e.2.1) (L := e.2.2) (hfs e (by simp)) (Wlk.nil _)
        simpa using this
      have := ih (ds ++ [e]) (relaxM M e.1 e.2.1 e.2.2) (fun x hx => hfs x (by simp [hx])) (hM.relax hee.2.2.1 hee.2.2.2 hw) (fun a b L h => by
        rcases h with h | h
        · have h1 := hd a b L (.inl h)
          have h2 := relax_le M e.1 e.2.1 e.2.2 hee.2.2.1 a b h1.1
          exact ⟨h2.1, by omega⟩
        · rcases List.mem_append.1 h with h | h
          · have h1 := hd a b L (.inr h)
            have h2 := relax_le M e.1 e.2.1 e.2.2 hee.2.2.1 a b h1.1
            exact ⟨h2.1, by omega⟩
          · simp at h
            subst h
            exact relax_at M a b L hee.2.2.1)
      simpa using this
  have h0 : OkM es B zeroM := by
    refine ⟨fun a => by simp [zeroM], fun a b => ?_, fun a b h => ?_⟩
    · unfold zeroM; split
      · exact .inr ⟨Int.le_refl _, hB⟩
      · exact .inl rfl
    · by_cases hab : a = b
      · subst hab
        have : zeroM a a = 0 := by simp [zeroM]
        rw [this]; exact Wlk.nil a
      · simp [zeroM, hab] at h
  have := key es [] zeroM (fun e h => h) h0 (fun a b L h => by
    rcases h with ⟨rfl, rfl⟩ | h
    · simp [zeroM]
    · cases h)
  exact ⟨this.1, fun a b L h => this.2 a b L (by simpa [Dk] using h)⟩
/-- In the midst of a stage. -/
structure MidM (es : List (Nat × Nat × Int)) (B : Int) (M : Mat) (k : Nat) (N : Mat) (D : Nat → Nat → Prop) : Prop where
  ok : OkM es (B + B) N
  col : ∀ a, N a k = M a k
  row : ∀ b, N k b = M k b
  le : ∀ a b, M a b ≠ -1 → N a b ≠ -1 ∧ N a b ≤ M a b
  dn : ∀ a b, D a b → M a k ≠ -1 → M k b ≠ -1 → N a b ≠ -1 ∧ N a b ≤ M a k + M k b
theorem MidM.mono {es : List (Nat × Nat × Int)} {B : Int} {M N : Mat} {k : Nat} {D D' : Nat → Nat → Prop} (h : MidM es B M k N D) (hd : ∀ a b, D' a b → D a b) : MidM es B M k N D' :=
  ⟨h.ok, h.col, h.row, h.le, fun a b hab => h.dn a b (hd a b hab)⟩
theorem MidM.step {es : List (Nat × Nat × Int)} {B : Int} {M N : Mat} {k : Nat} {D : Nat → Nat → Prop} (hM : OkM es B M) (h : MidM es B M k N D) (a b : Nat) :
    MidM es B M k (stepM k a N b) (fun x y => D x y ∨ (x = a ∧ y = b)) := by
  unfold stepM
  rw [h.col, h.row]
  by_cases hc : M a k ≠ -1 ∧ M k b ≠ -1
  case neg =>
    rw [if_neg hc]
    refine ⟨h.ok, h.col, h.row, h.le, fun x y hd h1 h2 => ?_⟩
    rcases hd with hd | ⟨rfl, rfl⟩
    · exact h.dn x y hd h1 h2
    · exact absurd ⟨h1, h2⟩ hc
  case pos =>
    rw [if_pos hc]
    have r1 := (hM.rng a k).resolve_left hc.1
    have r2 := (hM.rng k b).resolve_left hc.2
    have hL : 0 ≤ M a k + M k b := by omega
    have hw := (hM.snd a k hc.1).trans (hM.snd k b hc.2)
    have keep : a = k ∨ b = k → relaxM N a b (M a k + M k b) = N := by
      intro hk
      unfold relaxM
      rw [if_neg]
      rintro (h1 | h1)
      · rcases hk with rfl | rfl
        · rw [h.row] at h1; exact hc.2 h1
        · rw [h.col] at h1; exact hc.1 h1
      · rcases hk with rfl | rfl
        · rw [h.row, hM.diag] at h1; omega
        · rw [h.col, hM.diag] at h1; omega
    refine ⟨h.ok.relax hL (by omega) hw, fun x => ?_, fun y => ?_, fun x y hne => ?_, fun x y hd h1 h2 => ?_⟩
    · by_cases hk : a = k ∨ b = k
      · rw [keep hk]; exact h.col x
      · unfold relaxM
        split
        · rw [upd_other _ _ (by rintro ⟨_, rfl⟩; exact hk (.inr rfl))]; exact h.col x
        · exact h.col x
    · by_cases hk : a = k ∨ b = k
      · rw [keep hk]; exact h.row y
      · unfold relaxM
        split
        · rw [upd_other _ _ (by rintro ⟨rfl, _⟩; exact hk (.inl rfl))]; exact h.row y
        · exact h.row y
    · have h1 := h.le x y hne
      have h2 := relax_le N a b (M a k + M k b) hL x y h1.1
      exact ⟨h2.1, by omega⟩
    · rcases hd with hd | ⟨rfl, rfl⟩
      · have h3 := h.dn x y hd h1 h2
        have h4 := relax_le N a b (M a k + M k b) hL x y h3.1
        exact ⟨h4.1, by omega⟩
      · exact relax_at N x y _ hL
theorem MidM.rows {es : List (Nat × Nat × Int)} {B : Int} {M N : Mat} {k : Nat} {D : Nat → Nat → Prop} (hM : OkM es B M) (h : MidM es B M k N D) (a : Nat) : ∀ m, MidM es B M k (rowM k a m N) (fun x y => D x y ∨ (x = a ∧ y < m))
  | 0 => h.mono fun x y hd => by rcases hd with hd | ⟨_, h⟩
                                 · exact hd
                                 · omega
  | m + 1 => by
    rw [rowM_succ]
    refine ((MidM.rows hM h a m).step hM a m).mono fun x y hd => ?_
    rcases hd with hd | ⟨rfl, h⟩
    · exact .inl (.inl hd)
    · by_cases hy : y = m
      · exact .inr ⟨rfl, hy⟩
      · exact .inl (.inr ⟨rfl, by omega⟩)
theorem MidM.start {es : List (Nat × Nat × Int)} {B : Int} {M : Mat} (hB : 0 ≤ B) (hM : OkM es B M) (k : Nat) : MidM es B M k M (fun _ _ => False) :=
  ⟨hM.mono (by omega), fun _ => rfl, fun _ => rfl, fun _ _ h => ⟨h, Int.le_refl _⟩, fun _ _ h => h.elim⟩
theorem MidM.stage {es : List (Nat × Nat × Int)} {B : Int} {M : Mat} (hB : 0 ≤ B) (hM : OkM es B M) (k : Nat) : ∀ m, MidM es B M k (stageM k m M) (fun x y => x < m ∧ y < 12)
  | 0 => (MidM.start hB hM k).mono fun x y h => by omega
  | m + 1 => by
    rw [stageM_succ]
    refine ((MidM.stage hB hM k m).rows hM m 12).mono fun x y ⟨h1, h2⟩ => ?_
    by_cases hx : x = m
    · exact .inr ⟨hx, h2⟩
    · exact .inl ⟨by omega, h2⟩
theorem all_ok {es : List (Nat × Nat × Int)} {B : Int} (hB : 0 ≤ B) (he : EdgesIn es B) : ∀ k, k ≤ 12 → OkM es (B * 2 ^ k) (allM k (edgesM es)) ∧ ∀ a b L, a < 12 → b < 12 → Dk es k a b L → allM k (edgesM es) a b ≠ -1 ∧ allM k (edgesM es) a b ≤ L
  | 0, _ => by
    have := edges_ok hB he
    exact ⟨by simpa [allM] using this.1, fun a b L _ _ h => by simpa [allM] using this.2 a b L h⟩
  | k + 1, hk => by
    obtain ⟨h1, h2⟩ := all_ok hB he k (by omega)
    have hp : 0 ≤ B * 2 ^ k := Int.mul_nonneg hB (Int.pow_nonneg (by omega))
    have hm := MidM.stage hp h1 k 12
    rw [allM_succ]
    refine ⟨?_, fun a b L ha hb h => ?_⟩
    · have := hm.ok
      rwa [show B * 2 ^ k + B * 2 ^ k = B * 2 ^ (k + 1) by rw [Int.pow_succ, ← Int.mul_assoc]; omega] at this
    · rcases h with h | ⟨L1, L2, g1, g2, rfl⟩
      · have h3 := h2 a b L ha hb h
        have h4 := hm.le a b h3.1
        exact ⟨h4.1, by omega⟩
      · have h3 := h2 a k L1 ha (by omega) g1
        have h4 := h2 k b L2 (by omega) hb g2
        have h5 := hm.dn a b ⟨ha, hb⟩ h3.1 h4.1
        exact ⟨h5.1, by omega⟩
/-- What the relaxation answers. -/
def distM (es : List (Nat × Nat × Int)) : Mat := allM 12 (edgesM es)
theorem dist_le {es : List (Nat × Nat × Int)} {B : Int} (hB : 0 ≤ B) (he : EdgesIn es B) {a b : Nat} (ha : a < 12) (hb : b < 12) {L : Int} (h : Wlk es a b L) : distM es a b ≠ -1 ∧ distM es a b ≤ L := by
  obtain ⟨K, h1, h2⟩ := h.pk he
  have := (all_ok hB he 12 (by omega)).2 a b K ha hb h2
  exact ⟨this.1, by unfold distM; omega⟩
end Go.Proofs.YtjpabeoflhkfkaaGreatDoor
namespace Go.Proofs.YtjpabeoflhkfkaaGreatDoor
open Go.RowKit

/-- A block that holds distances. -/
def Blk (w : World) (R : Nat) (M : Mat) : Prop := ∃ cs : Array Value, w.heap[R]? = some (.cells cs 135 (0, 0)) ∧ cs.size = 144 ∧ ∀ a b, a < 12 → b < 12 → cs[a * 12 + b]? = some (iV (M a b))
theorem Blk.cell {w : World} {R : Nat} {M : Mat} (h : Blk w R M) {a b : Nat} (ha : a < 12) (hb : b < 12) : w.cell? ⟨R, a * 12 + b, none⟩ = some (iV (M a b)) ∧ w.frozen? ⟨R, a * 12 + b, none⟩ = false := by
  obtain ⟨cs, h1, _, h3⟩ := h
  exact ⟨cell_of_row _ _ _ _ _ _ h1 |>.trans (h3 a b ha hb), frozen_row h1 _⟩
theorem Blk.lt {w : World} {R : Nat} {M : Mat} (h : Blk w R M) : R < w.heap.size := by
  obtain ⟨cs, h1, _, _⟩ := h
  exact block_lt h1
theorem Blk.kept {w w' : World} {R : Nat} {M : Mat} (h : Blk w R M) (hk : w'.heap[R]? = w.heap[R]?) : Blk w' R M := by
  obtain ⟨cs, h1, h2, h3⟩ := h
  exact ⟨cs, hk.trans h1, h2, h3⟩
theorem Blk.below {w w' : World} {R : Nat} {M : Mat} (h : Blk w R M) (hb : Below w.heap.size w w') : Blk w' R M := h.kept (hb.block _ h.lt)
theorem Blk.set {w : World} {R : Nat} {M : Mat} (h : Blk w R M) {a b : Nat} (_ha : a < 12) (hb : b < 12) (L : Int) : Blk (w.setCell ⟨R, a * 12 + b, none⟩ (iV L)) R (updM M a b L) := by
  obtain ⟨cs, h1, h2, h3⟩ := h
  refine ⟨cs.setIfInBounds (a * 12 + b) (iV L), by simp [World.setCell, Array.getElem?_modify, h1], by simp [h2], fun x y hx hy => ?_⟩
  by_cases he : x = a ∧ y = b
  · obtain ⟨rfl, rfl⟩ := he
    rw [upd_same, Array.getElem?_setIfInBounds_self_of_lt (by rw [h2]; omega)]
  · rw [upd_other _ _ he, Array.getElem?_setIfInBounds_ne (by omega)]
    exact h3 x y hx hy
theorem grown_set (w : World) (R o : Nat) (v : Value) : w.grownBy (w.setCell ⟨R, o, none⟩ v) (some R) :=
  ⟨rfl, rfl, rfl, by simp, fun i _ hi => Below.heap_setCell w ⟨R, o, none⟩ v i (fun e => hi (by rw [e]))⟩

set_option maxHeartbeats 2000000 in
set_option maxRecDepth 100000 in
theorem relax_any (R : Nat) (M : Mat) (a b : Nat) (L : Int) (w : World) (h : Blk w R M) (ha : a < 12) (hb : b < 12) :
    Calls Tryz.prog 121 #[iV a, iV b, iV L, .pointer (some ⟨R, 0, none⟩)] w fun e w' => e = .returned (.tuple #[]) ∧ Blk w' R (relaxM M a b L) ∧ w.grownBy w' (some R) := by
  obtain ⟨hc, hfz⟩ := h.cell ha hb
  have H := Lib.hid h; clear h
  have j1 : (0 : Int) ≤ (a : Int) := by omega
  have j2 : (a : Int) < 12 := by omega
  have j3 : (0 : Int) ≤ (b : Int) := by omega
  have j4 : (b : Int) < 12 := by omega
  have HN : Hid (w.grownBy w (some R)) := ⟨rfl, rfl, rfl, Nat.le_refl _, fun _ _ _ => rfl⟩
  by_cases h1 : M a b = -1
  · have HR : Hid (relaxM M a b L = updM M a b L) := if_pos (.inl h1)
    have h1' : (M a b == -1) = true := by simpa using h1
    clear h1
    go_enter Tryz.func121, Tryz.ntmps121
    go_wp2_with fail
    go_end0
    exact ⟨rfl, by rw [HR.out]; exact H.out.set ha hb L, grown_set _ _ _ _⟩
  · have h1' : (M a b == -1) = false := by simpa using h1
    by_cases h2 : L < M a b
    · have HR : Hid (relaxM M a b L = updM M a b L) := if_pos (.inr h2)
      clear h1
      go_enter Tryz.func121, Tryz.ntmps121
      go_wp2_with fail
      go_end0
      exact ⟨rfl, by rw [HR.out]; exact H.out.set ha hb L, grown_set _ _ _ _⟩
    · have HR : Hid (relaxM M a b L = M) := if_neg (fun h => h.elim h1 h2)
      clear h1
      go_enter Tryz.func121, Tryz.ntmps121
      go_wp2_with fail
      go_end0
      exact ⟨rfl, by rw [HR.out]; exact H.out, HN.out⟩
end Go.Proofs.YtjpabeoflhkfkaaGreatDoor
namespace Go.Proofs.YtjpabeoflhkfkaaGreatDoor

/-- The seal of numbers, from a power and a sum on (as the loop reckons it). -/
def sealG : Int → Int → List Int → Int
  | _, s, [] => s
  | p, s, x :: l => sealG (Int.tmod (p * 3) 65521) (Int.tmod (s + Int.tmod (Int.tmod x 65521 + 65521) 65521 * Int.tmod (p * 3) 65521) 65521) l
def sealR (l : List Int) : Int := sealG 1 0 l
theorem norm_seal (x : Int) : Int.tmod (Int.tmod x 65521 + 65521) 65521 = x % 65521 := by
  have h2 := Int.tmod_lt_of_pos x (b := 65521) (by decide)
  have h3 : -65521 < Int.tmod x 65521 := by
    have := Int.tmod_lt_of_pos (-x) (b := 65521) (by decide)
    rw [Int.neg_tmod] at this
    omega
  have h4 := Int.tmod_add_mul_tdiv x 65521
  rw [Int.tmod_eq_emod_of_nonneg (a := _ + _) (by omega)]
  omega
theorem norm_in (x : Int) : 0 ≤ Int.tmod (Int.tmod x 65521 + 65521) 65521 ∧ Int.tmod (Int.tmod x 65521 + 65521) 65521 < 65521 := by rw [norm_seal]; omega
/-- What the power and the sum are, all along. -/
structure SealIn (p s : Int) : Prop where
  p0 : 0 ≤ p
  p1 : p < 65521
  s0 : 0 ≤ s
  s1 : s < 65521
theorem SealIn.step {p s : Int} (h : SealIn p s) (x : Int) : SealIn (Int.tmod (p * 3) 65521) (Int.tmod (s + Int.tmod (Int.tmod x 65521 + 65521) 65521 * Int.tmod (p * 3) 65521) 65521) := by
  obtain ⟨a, b, c, d⟩ := h
  obtain ⟨e, f⟩ := norm_in x
  have hp : 0 ≤ Int.tmod (p * 3) 65521 := by rw [Int.tmod_eq_emod_of_nonneg (by omega)]; omega
  have hm := Int.mul_nonneg e hp
  have hp1 : Int.tmod (p * 3) 65521 < 65521 := by rw [Int.tmod_eq_emod_of_nonneg (by omega)]; omega
  refine ⟨hp, hp1, ?_, ?_⟩ <;> (rw [Int.tmod_eq_emod_of_nonneg (a := s + _) (by omega)]; omega)
/-- The power can be divided by. -/
def Unit3 (p : Int) : Prop := ∃ q, (p * q) % 65521 = 1
theorem Unit3.step {p : Int} (h0 : 0 ≤ p) (h : Unit3 p) : Unit3 (Int.tmod (p * 3) 65521) := by
  obtain ⟨q, hq⟩ := h
  refine ⟨q * 43681, ?_⟩
  rw [Int.tmod_eq_emod_of_nonneg (by omega), Int.mul_emod, Int.emod_emod_of_dvd _ (Int.dvd_refl _), ← Int.mul_emod, show p * 3 * (q * 43681) = p * q * 131043 by rw [Int.mul_assoc, Int.mul_assoc, ← Int.mul_assoc 3 q, Int.mul_comm 3 q, Int.mul_assoc q]; rfl]
  generalize p * q = r at *
  omega
end Go.Proofs.YtjpabeoflhkfkaaGreatDoor
