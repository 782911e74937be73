/-
  Lex's contract in the forms that callers use; the walk over the laws' common beginning: head and small.
-/
import Derived.Test.YtbeodifgekhhpaaDoorLexWalk
namespace Go.Proofs.YtbeodifgekhhpaaDoor
open Go.RowKit
attribute [local go_sem] ba_get ba_extract ba_append

/-- A slice of tokens that lies in a block from B on. -/
def Toks (w : World) (B : Nat) (A : Option Addr) (ts : List Lex.Tok) : Prop :=
  ts ≠ [] → ∃ g, A = some ⟨g, 0, none⟩ ∧ B ≤ g ∧ g < w.heap.size ∧ ∀ i t, ts[i]? = some t →
    w.cell? ⟨g, i * 3, none⟩ = some (.int .i64 t.kind) ∧ w.cell? ⟨g, i * 3 + 1, none⟩ = some (.string ⟨t.text.toArray⟩) ∧ w.cell? ⟨g, i * 3 + 2, none⟩ = some (.int .i64 t.at_)
theorem Toks.below {w w' : World} {B : Nat} {A : Option Addr} {ts : List Lex.Tok} (h : Toks w B A ts) (hb : Below w.heap.size w w') : Toks w' B A ts := by
  intro hne
  obtain ⟨g, hA, hB, hg, hc⟩ := h hne
  refine ⟨g, hA, hB, Nat.lt_of_lt_of_le hg hb.size, fun i t ht => ?_⟩
  rw [hb.cell (p := ⟨g, i * 3, none⟩) hg, hb.cell (p := ⟨g, i * 3 + 1, none⟩) hg, hb.cell (p := ⟨g, i * 3 + 2, none⟩) hg]
  exact hc i t ht
theorem toksCells_get (ts : List Lex.Tok) (i j : Nat) (hj : j < 3) (t : Lex.Tok) (h : ts[i]? = some t) : (toksCells ts)[i * 3 + j]? = (tokCells t)[j]? := by
  induction ts generalizing i with
  | nil => simp at h
  | cons a r ih =>
    have hl : (tokCells a).length = 3 := rfl
    cases i with
    | zero =>
      simp at h
      subst h
      show (tokCells a ++ toksCells r)[0 * 3 + j]? = _
      rw [List.getElem?_append_left (by omega)]
      congr 1; omega
    | succ i =>
      show (tokCells a ++ toksCells r)[(i + 1) * 3 + j]? = _
      rw [List.getElem?_append_right (by omega), hl, show (i + 1) * 3 + j - 3 = i * 3 + j by omega]
      exact ih i (by simpa using h)
theorem add_lit (g j : Nat) : (⟨g, 0, none⟩ : Addr).add j = ⟨g, j, none⟩ := by unfold Addr.add; split <;> simp_all
theorem toks_of_own {w : World} {B : Nat} {v : Value} {ts : List Lex.Tok} (h : w.ownsRow B 31 3 v ts.length (toksCells ts)) : ∃ A c, v = .slice A ts.length c ∧ ts.length ≤ c ∧ Toks w B A ts := by
  rcases h.2 with ⟨rfl, h0⟩ | ⟨g, cap, cur, rfl, hb, hg, hc, hm, _⟩
  · rw [h0]
    exact ⟨none, 0, rfl, Nat.le_refl _, fun hne => absurd (List.eq_nil_of_length_eq_zero h0) hne⟩
  · refine ⟨_, cap, rfl, hc, fun _ => ⟨g, rfl, hb, block_lt hg, fun i t ht => ?_⟩⟩
    have hcell := fun j (hj : j < 3) u hu => h.cells (g := g) rfl (i * 3 + j) u ((toksCells_get ts i j hj t ht).trans hu)
    have h0 := hcell 0 (by omega) _ rfl
    have h1 := hcell 1 (by omega) _ rfl
    have h2 := hcell 2 (by omega) _ rfl
    rw [add_lit] at h0 h1 h2
    exact ⟨h0, h1, h2⟩
/-- Lex without an error. -/
def LexOk (ts : List Lex.Tok) (w : World) (e : Ending) (w' : World) : Prop :=
  Below w.heap.size w w' ∧ ∃ A c, e = .returned (.tuple #[.slice A ts.length c, .int .i64 0, .int .i64 (-1)]) ∧ ts.length ≤ c ∧ Toks w' w.heap.size A ts
theorem lex_ok (l : List UInt8) (ts : List Lex.Tok) (w : World) (hl : l.length ≤ 100000) (hS : Syms w) (h : Lex.lexF l = .ok ts) :
    Calls Tryd.prog 12 #[.string ⟨l.toArray⟩] w (LexOk ts w) := by
  refine (lex_any l w hl hS).mono ?_
  rintro e w' ⟨hb, hm⟩
  rw [h] at hm
  obtain ⟨v, he, ho⟩ := hm
  obtain ⟨A, c, rfl, hc, ht⟩ := toks_of_own ho
  exact ⟨hb, A, c, he, hc, ht⟩
theorem lex_err (l : List UInt8) (n off : Nat) (w : World) (hl : l.length ≤ 100000) (hS : Syms w) (h : Lex.lexF l = .error (n, off)) :
    Calls Tryd.prog 12 #[.string ⟨l.toArray⟩] w fun e w' => e = .returned (.tuple #[.slice none 0 0, .int .i64 n, .int .i64 off]) ∧ Below w.heap.size w w' := by
  refine (lex_any l w hl hS).mono ?_
  rintro e w' ⟨hb, hm⟩
  rw [h] at hm
  exact ⟨hm, hb⟩
/-- At least seven tokens, or three, as the head reads them. -/
theorem Toks.at {w : World} {B g : Nat} {ts : List Lex.Tok} (h : Toks w B (some ⟨g, 0, none⟩) ts) (i : Nat) (t : Lex.Tok) (ht : ts[i]? = some t) :
    w.cell? ⟨g, i * 3, none⟩ = some (.int .i64 t.kind) ∧ w.cell? ⟨g, i * 3 + 1, none⟩ = some (.string ⟨t.text.toArray⟩) ∧ w.cell? ⟨g, i * 3 + 2, none⟩ = some (.int .i64 t.at_) := by
  obtain ⟨g', hg', _, _, hc⟩ := h (fun e => by rw [e] at ht; cases ht)
  cases hg'
  exact hc i t ht

def headA : List Lex.Tok := [⟨1, [108, 105, 110, 101], 0⟩, ⟨1, [108, 49], 5⟩, ⟨3, [58], 7⟩, ⟨1, [97], 9⟩, ⟨3, [45, 62], 11⟩, ⟨1, [98, 50], 14⟩, ⟨3, [59], 16⟩]
def headB : List Lex.Tok := [⟨4, [77, 97, 105, 110, 32, 83, 116, 46], 0⟩, ⟨2, [48, 48, 52, 50], 11⟩, ⟨1, [49, 65], 16⟩]
theorem head1 : Lex.lexF [108, 105, 110, 101, 32, 108, 49, 58, 32, 97, 32, 45, 62, 32, 98, 50, 59] = .ok headA := by rfl
theorem head2 : Lex.lexF [34, 77, 97, 105, 110, 32, 83, 116, 46, 34, 32, 48, 48, 52, 50, 32, 49, 65, 32, 37, 32, 120] = .ok headB := by rfl
theorem head3 : Lex.lexF [120, 32, 49, 50, 51, 52, 53, 54, 55, 56, 57] = .error (30, 2) := by rfl
theorem head4 : Lex.lexF [97, 32, 45, 32, 62, 32, 98, 32, 95, 99] = .error (30, 4) := by rfl
theorem head5 : Lex.lexF [40, 34, 97] = .error (30, 1) := by rfl

theorem small_any (l : List UInt8) (w : World) (hl : l.length ≤ maxLen) :
    Calls Tryd.prog 11 #[.string ⟨l.toArray⟩] w fun e w' => e = .returned (.bool (decide (l.length ≤ 8100))) ∧ w = w' := by
  unfold maxLen at hl
  go_enter Tryd.func11, Tryd.ntmps11
  go_wp2
  go_ret
  exact ⟨ret_bool (by rw [Bool.eq_iff_iff]; simp; omega), rfl⟩

theorem sym_lt {w : World} (hS : Syms w) : 0 < w.heap.size := by
  obtain ⟨t, fr, h⟩ := hS
  exact block_lt h
set_option maxHeartbeats 1000000 in
set_option maxRecDepth 100000 in
theorem head_any (w : World) (hS : Syms w) :
    Calls Tryd.prog 10 #[] w fun e w' => e = .returned (.bool true) ∧ Below w.heap.size w w' := by
  have HS := Lib.hid hS; clear hS
  go_enter Tryd.func10, Tryd.ntmps10
  go_wp2_with fail
  refine (lex_ok _ _ _ (by decide) HS.out head1).mono ?_
  rintro e w1 ⟨hb1, A, c, rfl, hc1, ht1⟩
  have HS1 := Lib.hid (HS.out.below hb1 (sym_lt HS.out))
  go_wp2_with fail
  refine (lex_ok _ _ _ (by decide) HS1.out head2).mono ?_
  rintro e w2 ⟨hb2, A2, c2, rfl, hc2, ht2⟩
  have HS2 := Lib.hid (HS1.out.below hb2 (sym_lt HS1.out))
  go_wp2_with fail
  refine (lex_err _ _ _ _ (by decide) HS2.out head3).mono ?_
  rintro e w3 ⟨rfl, hb3⟩
  have HS3 := Lib.hid (HS2.out.below hb3 (sym_lt HS2.out))
  go_wp2_with fail
  refine (lex_err _ _ _ _ (by decide) HS3.out head4).mono ?_
  rintro e w4 ⟨rfl, hb4⟩
  have HS4 := Lib.hid (HS3.out.below hb4 (sym_lt HS3.out))
  go_wp2_with fail
  refine (lex_err _ _ _ _ (by decide) HS4.out head5).mono ?_
  rintro e w5 ⟨rfl, hb5⟩
  have ht1' := (((ht1.below hb2).below hb3).below hb4).below hb5
  have ht2' := ((ht2.below hb3).below hb4).below hb5
  obtain ⟨g1, rfl, _⟩ := ht1' (by simp [headA])
  obtain ⟨g2, rfl, _⟩ := ht2' (by simp [headB])
  obtain ⟨a1, a2, a3⟩ := ht1'.at 1 _ rfl
  obtain ⟨b1, b2, b3⟩ := ht1'.at 4 _ rfl
  obtain ⟨d1, d2, d3⟩ := ht1'.at 6 _ rfl
  obtain ⟨e1, e2, e3⟩ := ht2'.at 0 _ rfl
  obtain ⟨f1, f2, f3⟩ := ht2'.at 1 _ rfl
  obtain ⟨k1, k2, k3⟩ := ht2'.at 2 _ rfl
  clear ht1 ht2 ht1' ht2'
  simp only [headA, headB, List.length_cons, List.length_nil] at hc1 hc2 ⊢
  go_wp2
  go_ret
  exact ⟨rfl, bt (bt (bt (bt hb1 hb2) hb3) hb4) hb5⟩
end Go.Proofs.YtbeodifgekhhpaaDoor
