/-
  The walks over the small functions of the reference package: Source, Same, Word, Digit.
-/
import Derived.Test.YtbeodifgekhhpaaDoorLexHead
namespace Go.Proofs.YtbeodifgekhhpaaDoor
open Go.RowKit
attribute [local go_sem] ba_get ba_extract ba_append

def srcF (k : Nat) (t : List UInt8) : List UInt8 := if k = 4 then 34 :: (t ++ [34]) else t
theorem srcF_len (k : Nat) (t : List UInt8) : (srcF k t).length ≤ t.length + 2 := by unfold srcF; split <;> simp
set_option maxHeartbeats 400000 in
theorem source_any (k : Nat) (t : List UInt8) (a : Int) (w : World) (hk : k ≤ 100) (ht : t.length ≤ 100000) :
    Calls Tryd.prog 15 #[.agg #[.int .i64 k, .string ⟨t.toArray⟩, .int .i64 a]] w fun e w' => e = .returned (.string ⟨(srcF k t).toArray⟩) ∧ Below w.heap.size w w' := by
  by_cases h4 : k = 4
  · subst h4
    go_enter Tryd.func15, Tryd.ntmps15
    go_wp2
    go_ret
    exact ⟨rfl, (Below.refl _ _).alloc (Nat.le_refl _) _⟩
  · have b4 : ((k : Int) == 4) = false := by simp; omega
    have H : Hid (srcF k t = t) := by unfold srcF; rw [if_neg h4]; exact rfl
    go_enter Tryd.func15, Tryd.ntmps15
    go_wp2
    go_ret
    rw [H.out]
    exact ⟨rfl, (Below.refl _ _).alloc (Nat.le_refl _) _⟩

set_option maxHeartbeats 400000 in
theorem refDigit_any (c : UInt8) (w : World) :
    Calls Tryd.prog 21 #[.int .u8 c.toNat] w fun e w' => e = .returned (.bool (Lex.isDig c)) ∧ w = w' := by
  go_enter Tryd.func21, Tryd.ntmps21
  go_wp2
  all_goals go_ret
  all_goals refine ⟨ret_bool ?_, rfl⟩
  all_goals unfold Lex.isDig
  all_goals rw [Bool.eq_iff_iff]; simp; omega
set_option maxHeartbeats 400000 in
theorem refWord_any (c : UInt8) (w : World) :
    Calls Tryd.prog 20 #[.int .u8 c.toNat] w fun e w' => e = .returned (.bool (Lex.isWord c)) ∧ w = w' := by
  by_cases h : 48 ≤ c.toNat ∧ c.toNat ≤ 57
  all_goals
    have hd : Lex.isDig c = decide (48 ≤ c.toNat ∧ c.toNat ≤ 57) := by unfold Lex.isDig; simp
    have HD := Lib.hid hd; clear hd
    go_enter Tryd.func20, Tryd.ntmps20
    go_wp2_with (go_at_call 21; refine (refDigit_any _ _).mono ?_; rintro e w' ⟨rfl, rfl⟩)
    all_goals go_ret
    all_goals refine ⟨ret_bool ?_, rfl⟩
    all_goals unfold Lex.isWord
    all_goals (try rename_i hx; try rw [HD.out] at hx)
    all_goals (rw [Bool.eq_iff_iff]; simp [HD.out] at *; omega)

/-- The two slices' cells: the same tokens. -/
theorem Toks.cells {w : World} {B g : Nat} {ts : List Lex.Tok} (h : Toks w B (some ⟨g, 0, none⟩) ts) (i : Nat) (hi : i < ts.length) :
    w.cell? ⟨g, i * 3, none⟩ = some (.int .i64 (ts[i]).kind) ∧ w.cell? ⟨g, i * 3 + 1, none⟩ = some (.string ⟨(ts[i]).text.toArray⟩) ∧ w.cell? ⟨g, i * 3 + 2, none⟩ = some (.int .i64 (ts[i]).at_) :=
  h.at i _ (List.getElem?_eq_getElem hi)
theorem Toks.addr {w : World} {B : Nat} {A : Option Addr} {ts : List Lex.Tok} (h : Toks w B A ts) (hne : 0 < ts.length) : ∃ g, A = some ⟨g, 0, none⟩ ∧ B ≤ g ∧ g < w.heap.size := by
  obtain ⟨g, hg, h1, h2, _⟩ := h (fun e => by rw [e] at hne; simp at hne)
  exact ⟨g, hg, h1, h2⟩
theorem Toks.take {w : World} {B : Nat} {A : Option Addr} {ts : List Lex.Tok} (h : Toks w B A ts) (n : Nat) : Toks w B A (ts.take n) := by
  intro hne
  obtain ⟨g, hA, hB, hg, hc⟩ := h (fun e => by rw [e] at hne; simp at hne)
  refine ⟨g, hA, hB, hg, fun i t ht => hc i t ?_⟩
  rw [List.getElem?_take] at ht
  split at ht
  · exact ht
  · cases ht
theorem Toks.drewN {w : World} {B : Nat} {A : Option Addr} {ts : List Lex.Tok} (h : Toks w B A ts) (n : Nat) : Toks (w.drewN n) B A ts := h

set_option maxHeartbeats 1000000 in
theorem same_any (ts : List Lex.Tok) (A A' : Option Addr) (c c' B B' : Nat) (w : World) (hl : ts.length ≤ 100000) (h : Toks w B A ts) (h' : Toks w B' A' ts) :
    Calls Tryd.prog 14 #[.slice A ts.length c, .slice A' ts.length c'] w fun e w' => e = .returned (.bool true) ∧ Below w.heap.size w w' := by
  have H := Lib.hid h; clear h
  have H' := Lib.hid h'; clear h'
  go_enter Tryd.func14, Tryd.ntmps14
  go_wp2
  go_loopg [5] ts.length (fun g i wr => ∃ k n : Nat, k + g = ts.length ∧ i = .int .i64 k ∧ w.drewN n = wr)
  case atStart => exact ⟨0, 0, by omega, rfl, rfl⟩
  case round =>
    obtain ⟨k, n, hk, rfl, rfl⟩ := hrel
    cases gk with
    | zero =>
      have hkz : ¬ ((k : Int) < (ts.length : Int)) := by omega
      go_wp2
      go_ret
      exact ⟨rfl, below_drewN (Below.refl _ _) _⟩
    | succ g =>
      have hkz : (k : Int) < (ts.length : Int) := by omega
      have hki : (0 : Int) ≤ (k : Int) := Int.natCast_nonneg _
      obtain ⟨b, rfl, _, _⟩ := H.out.addr (by omega)
      obtain ⟨b', rfl, _, _⟩ := H'.out.addr (by omega)
      obtain ⟨a1, a2, a3⟩ := H.out.cells k (by omega)
      obtain ⟨c1, c2, c3⟩ := H'.out.cells k (by omega)
      go_wp2
      go_quiet (fail)
      go_wp2
      go_roundg g
      case measure => omega
      case rel => exact ⟨k + 1, _, by omega, by first | rfl | simp, by first | rfl | simp⟩
theorem same_at (ts : List Lex.Tok) (n : Nat) (A A' : Option Addr) (c c' B B' : Nat) (w : World) (hn : ts.length = n) (hl : n ≤ 100000) (h : Toks w B A ts) (h' : Toks w B' A' ts) :
    Calls Tryd.prog 14 #[.slice A n c, .slice A' n c'] w fun e w' => e = .returned (.bool true) ∧ Below w.heap.size w w' := by
  subst hn
  exact same_any ts A A' c c' B B' w hl h h'
end Go.Proofs.YtbeodifgekhhpaaDoor
