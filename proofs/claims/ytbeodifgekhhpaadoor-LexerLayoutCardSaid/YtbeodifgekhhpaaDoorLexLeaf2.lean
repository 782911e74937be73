/-
  More walks over the small functions of package lexer: gaps, symbols, tokens.
-/
import Derived.Test.YtbeodifgekhhpaaDoorLexLeaf
import Derived.Test.YtbeodifgekhhpaaDoorShelf
import Derived.Lib.IndexLaws
namespace Go.Proofs.YtbeodifgekhhpaaDoor
open Go.RowKit
attribute [local go_sem] ba_get ba_extract ba_append

theorem gapLen_true (l : List UInt8) : (Lib.indexByte l 10 = -1 ∧ Lex.gapLen true l = l.length) ∨ ∃ o : Nat, Lib.indexByte l 10 = o ∧ o < l.length ∧ Lex.gapLen true l = o + Lex.gapLen false (l.drop o) := by
  induction l with
  | nil => left; exact ⟨rfl, rfl⟩
  | cons c r ih =>
    by_cases h : c = 10
    · subst h
      right
      refine ⟨0, rfl, by simp, ?_⟩
      simp [Lex.gapLen]
    · have hb : (c == 10) = false := by simpa using h
      have hn : ¬ c.toNat = 10 := fun e => h (UInt8.toNat_inj.1 e)
      rcases ih with ⟨h1, h2⟩ | ⟨o, h1, h2, h3⟩
      · left
        exact ⟨by simp [Lib.indexByte, hb, h1], by simp [Lex.gapLen, hn, h2]⟩
      · right
        refine ⟨o + 1, ?_, by simpa using h2, ?_⟩
        · have : ¬ ((o : Int) = -1) := by omega
          simp [Lib.indexByte, hb, h1, this]
        · simp [Lex.gapLen, hn, h3]; omega
theorem gapLen_pct (c : UInt8) (r : List UInt8) (h : c.toNat = 37) : Lex.gapLen false (c :: r) = Lex.gapLen true (c :: r) := by
  simp [Lex.gapLen, h]
theorem gapLen_ws (c : UInt8) (r : List UInt8) (h : c.toNat = 32 ∨ c.toNat = 9 ∨ c.toNat = 10 ∨ c.toNat = 13) : Lex.gapLen false (c :: r) = Lex.gapLen false r + 1 := by
  simp [Lex.gapLen, h]
theorem gapLen_other (c : UInt8) (r : List UInt8) (h : ¬ (c.toNat = 32 ∨ c.toNat = 9 ∨ c.toNat = 10 ∨ c.toNat = 13)) (h' : ¬ c.toNat = 37) : Lex.gapLen false (c :: r) = 0 := by
  simp [Lex.gapLen, h, h']
open Lex (skipF)
theorem Lex.skipF_le (l : List UInt8) (k : Nat) (h : k ≤ l.length) : skipF l k ≤ l.length := by
  have := Lex.gapLen_le false (l.drop k)
  simp at this; unfold skipF; omega
theorem Lex.skipF_ge (l : List UInt8) (k : Nat) : k ≤ skipF l k := by unfold skipF; omega
theorem skipF_end (l : List UInt8) (k : Nat) (h : l.length ≤ k) : skipF l k = k := by
  unfold skipF; rw [List.drop_eq_nil_of_le h]; rfl
theorem skipF_ws (l : List UInt8) (k : Nat) (h : k < l.length) (hw : l[k].toNat = 32 ∨ l[k].toNat = 9 ∨ l[k].toNat = 10 ∨ l[k].toNat = 13) : skipF l k = skipF l (k + 1) := by
  unfold skipF; rw [List.drop_eq_getElem_cons h, gapLen_ws _ _ hw]; omega
theorem skipF_other (l : List UInt8) (k : Nat) (h : k < l.length) (hw : ¬ (l[k].toNat = 32 ∨ l[k].toNat = 9 ∨ l[k].toNat = 10 ∨ l[k].toNat = 13)) (hp : ¬ l[k].toNat = 37) : skipF l k = k := by
  unfold skipF; rw [List.drop_eq_getElem_cons h, gapLen_other _ _ hw hp]; omega
theorem skipF_pct (l : List UInt8) (k : Nat) (h : k < l.length) (hp : l[k].toNat = 37) : (Lib.indexByte (l.drop k) 10 = -1 ∧ skipF l k = l.length) ∨ ∃ o : Nat, Lib.indexByte (l.drop k) 10 = o ∧ 0 < o ∧ k + o < l.length ∧ skipF l k = skipF l (k + o) := by
  have e : Lex.gapLen false (l.drop k) = Lex.gapLen true (l.drop k) := by rw [List.drop_eq_getElem_cons h]; exact gapLen_pct _ _ hp
  rcases gapLen_true (l.drop k) with ⟨h1, h2⟩ | ⟨o, h1, h2, h3⟩
  · left; refine ⟨h1, ?_⟩; unfold skipF; rw [e, h2]; simp; omega
  · right
    simp at h2
    refine ⟨o, h1, ?_, by omega, ?_⟩
    · rcases Nat.eq_zero_or_pos o with rfl | ho
      · have := (Lib.indexByte_some h1).1
        rw [List.drop_eq_getElem_cons h, List.getElem?_cons_zero, Option.some.injEq] at this
        rw [this] at hp; simp at hp
      · exact ho
    · unfold skipF; rw [e, h3, List.drop_drop]; omega

theorem indexByte_any (l : List UInt8) (z : Int) (w : World) (h : Lib.indexByte l 10 = z) :
    Calls Tryd.prog 35 #[.string ⟨l.toArray⟩, .int .u8 10] w fun e w' => e = .returned (.int .i64 z) ∧ w = w' := by
  refine (Tryd.strings_IndexByte _ _ _).mono ?_
  rintro e w' ⟨rfl, rfl⟩
  exact ⟨ret_int h, rfl⟩
theorem hasPrefix_any (l p : List UInt8) (w : World) :
    Calls Tryd.prog 34 #[.string ⟨l.toArray⟩, .string ⟨p.toArray⟩] w fun e w' => e = .returned (.bool (p.isPrefixOf l)) ∧ w = w' := by
  refine (Tryd.strings_HasPrefix _ _ _).mono ?_
  rintro e w' ⟨rfl, rfl⟩
  exact ⟨rfl, rfl⟩

set_option maxHeartbeats 400000 in
theorem skip_any (l : List UInt8) (k0 : Nat) (w : World) (hl : l.length ≤ 100000) (hk0 : k0 ≤ l.length) :
    Calls Tryd.prog 26 #[.string ⟨l.toArray⟩, .int .i64 k0] w fun e w' => e = .returned (.int .i64 (skipF l k0)) ∧ w = w' := by
  go_enter Tryd.func26, Tryd.ntmps26
  go_wp2
  go_loop [1] (fun i => ∃ k : Nat, k ≤ l.length ∧ i = .int .i64 k ∧ Hid (skipF l k0 = skipF l k)) (fun i => l.length - (intOf i).toNat)
  case atStart => exact ⟨k0, hk0, rfl, rfl⟩
  case round =>
    obtain ⟨k, hk, rfl, H⟩ := hrel
    by_cases hlt : k < l.length
    · by_cases hw : l[k].toNat = 32 ∨ l[k].toNat = 9 ∨ l[k].toNat = 10 ∨ l[k].toNat = 13
      · have HW := Lib.hid (skipF_ws l k hlt hw)
        rcases hw with hw | hw | hw | hw
        all_goals
          have b1 : ((l[k].toNat : Int) == 32) = decide (l[k].toNat = 32) := by rw [hw]; decide
          have b2 : ((l[k].toNat : Int) == 9) = decide (l[k].toNat = 9) := by rw [hw]; decide
          have b3 : ((l[k].toNat : Int) == 10) = decide (l[k].toNat = 10) := by rw [hw]; decide
          have b4 : ((l[k].toNat : Int) == 13) = decide (l[k].toNat = 13) := by rw [hw]; decide
          go_wp2
          go_round
          case rel => exact ⟨k + 1, hlt, by go_num, by have := H.out; rw [HW.out] at this; exact this⟩
          case measure => simp [intOf]; omega
      · have b1 : ((l[k].toNat : Int) == 32) = false := by simp; omega
        have b2 : ((l[k].toNat : Int) == 9) = false := by simp; omega
        have b3 : ((l[k].toNat : Int) == 10) = false := by simp; omega
        have b4 : ((l[k].toNat : Int) == 13) = false := by simp; omega
        by_cases hp : l[k].toNat = 37
        · have b5 : ((l[k].toNat : Int) == 37) = true := by simp [hp]
          have HP := Lib.hid (skipF_pct l k hlt hp)
          clear hp hw
          rcases HP.out with ⟨h1, h2⟩ | ⟨o, h1, h2, h3, h4⟩
          · have H1 := Lib.hid h1; clear h1
            have H2 := Lib.hid h2; clear h2
            go_wp2_with (go_at_call 35; refine (indexByte_any _ _ _ H1.out).mono ?_; rintro e w' ⟨rfl, rfl⟩)
            go_ret
            exact ⟨ret_int (by rw [H.out, H2.out]), rfl⟩
          · have H1 := Lib.hid h1; clear h1
            have H4 := Lib.hid h4; clear h4
            go_wp2_with (go_at_call 35; refine (indexByte_any _ _ _ H1.out).mono ?_; rintro e w' ⟨rfl, rfl⟩)
            go_round
            case rel => exact ⟨k + o, by omega, by go_num, by have := H.out; rw [H4.out] at this; exact this⟩
            case measure => simp [intOf]; omega
        · have b5 : ((l[k].toNat : Int) == 37) = false := by simp; omega
          have HO := Lib.hid (skipF_other l k hlt hw hp)
          clear hp hw
          go_wp2
          go_ret
          exact ⟨ret_int (by rw [H.out, HO.out]), rfl⟩
    · go_wp2
      go_ret
      exact ⟨ret_int (by rw [H.out, skipF_end l k (by omega)]), rfl⟩

/-- The table of symbols lies in its variable. -/
def symCells : Array Value := (Lex.symbols.map fun s => Value.string ⟨s.toArray⟩).toArray
def Syms (w : World) : Prop := ∃ t fr, w.heap[0]? = some (.cells symCells t fr)
theorem Syms.below {w w' : World} {B : Nat} (h : Syms w) (hb : Below B w w') (hB : 0 < B) : Syms w' := by
  obtain ⟨t, fr, h⟩ := h
  exact ⟨t, fr, by rw [hb.block _ hB]; exact h⟩

theorem firstPre_drop (l : List UInt8) (k : Nat) (h : k < Lex.symbols.length) : Lex.firstPre l (Lex.symbols.drop k) = if (Lex.symbols[k]).isPrefixOf l then (Lex.symbols[k]).length else Lex.firstPre l (Lex.symbols.drop (k + 1)) := by
  rw [List.drop_eq_getElem_cons h]; rfl
theorem sym_index (k : Nat) (h : k < Lex.symbols.length) (w : World) : (Instr.index 53 (.agg symCells) (.int .i64 k)).run Tryd.prog w = .ok (.string ⟨(Lex.symbols[k]).toArray⟩) w := by
  have h13 : k < 13 := h
  have : k = 0 ∨ k = 1 ∨ k = 2 ∨ k = 3 ∨ k = 4 ∨ k = 5 ∨ k = 6 ∨ k = 7 ∨ k = 8 ∨ k = 9 ∨ k = 10 ∨ k = 11 ∨ k = 12 := by omega
  rcases this with rfl | rfl | rfl | rfl | rfl | rfl | rfl | rfl | rfl | rfl | rfl | rfl | rfl <;> rfl
theorem sym_len (k : Nat) (h : k < Lex.symbols.length) : (Lex.symbols[k]).length ≤ 2 :=
  (by decide : ∀ s ∈ Lex.symbols, s.length ≤ 2) _ (List.getElem_mem h)
set_option maxHeartbeats 400000 in
theorem symbolLength_any (l : List UInt8) (w : World) (hS : Syms w) :
    Calls Tryd.prog 25 #[.string ⟨l.toArray⟩] w fun e w' => e = .returned (.int .i64 (Lex.symLen l)) ∧ w = w' := by
  obtain ⟨t, fr, hS⟩ := hS
  have HS := Lib.hid hS; clear hS
  go_enter Tryd.func25, Tryd.ntmps25
  go_wp2_with (refine wpList_load_row rfl _ _ rfl _ rfl _ _ _ _ HS.out Tryd.underlying53 rfl (by kernel_rfl) ?_)
  clear HS
  go_loop [6] (fun i => ∃ k : Nat, k ≤ 13 ∧ i = .int .i64 k ∧ Hid (Lex.symLen l = Lex.firstPre l (Lex.symbols.drop k))) (fun i => 13 - (intOf i).toNat)
  case atStart => exact ⟨0, by omega, rfl, rfl⟩
  case round =>
    obtain ⟨k, hk, rfl, H⟩ := hrel
    by_cases hlt : k < 13
    · have hlt' : k < Lex.symbols.length := hlt
      have hix := sym_index k hlt'
      have hsl := sym_len k hlt'
      have HF := Lib.hid (firstPre_drop l k hlt')
      obtain ⟨s, HSY⟩ : ∃ s, Hid (Lex.symbols[k] = s) := ⟨_, Lib.hid rfl⟩
      rw [HSY.out] at hix hsl
      have HF' : Hid (Lex.firstPre l (Lex.symbols.drop k) = if s.isPrefixOf l then s.length else Lex.firstPre l (Lex.symbols.drop (k + 1))) := by
        have := HF.out; rw [HSY.out] at this; exact this
      clear HF
      go_wp2_with (go_at_call 34; refine (hasPrefix_any _ _ _).mono ?_; rintro e w' ⟨rfl, rfl⟩)
      · go_ret
        have hp : s.isPrefixOf l = true := by assumption
        exact ⟨ret_int (by rw [H.out, HF'.out, if_pos hp]), rfl⟩
      · have hp : s.isPrefixOf l = false := by assumption
        go_round
        case rel => exact ⟨k + 1, by omega, by go_num, by have := H.out; rw [HF'.out, hp] at this; exact this⟩
        case measure => simp [intOf]; omega
    · go_wp2
      go_ret
      obtain rfl : k = 13 := by omega
      exact ⟨ret_int (by rw [H.out]; rfl), rfl⟩

/-- A token as its cells. -/
def tokCells (t : Lex.Tok) : List Value := [.int .i64 t.kind, .string ⟨t.text.toArray⟩, .int .i64 t.at_]
set_option maxHeartbeats 400000 in
theorem token_any (k : Nat) (p : List UInt8) (i : Nat) (w : World) (hk : k = 4 → 2 ≤ p.length) (hp : p.length ≤ 100000) (hk9 : k ≤ 9) :
    Calls Tryd.prog 27 #[.int .i64 k, .string ⟨p.toArray⟩, .int .i64 i] w fun e w' => e = .returned (.agg #[.int .i64 k, .string ⟨(Lex.tokText k p).toArray⟩, .int .i64 i]) ∧ Below w.heap.size w w' := by
  by_cases h4 : k = 4
  · have h2 := hk h4
    subst h4
    have HT : Hid (Lex.tokText 4 p = (p.take (p.length - 1)).drop 1) := by
      show (p.drop 1).take (p.length - 2) = _
      rw [List.drop_take]; congr 1
    clear hk
    go_enter Tryd.func27, Tryd.ntmps27
    go_wp2
    exact bodyPost_ret (v := .agg #[.int .i64 4, .string ⟨((p.take (p.length - 1)).tail).toArray⟩, .int .i64 i]) (by simp [results, Tryd.results27, go_sem]) rfl ⟨by rw [HT.out, List.drop_one]; rfl, (Below.refl _ _).alloc (Nat.le_refl _) _⟩
  · have HT : Hid (Lex.tokText k p = p) := by show (if k = 4 then _ else _) = _; rw [if_neg h4]
    have hb : ((k : Int) == 4) = false := by simp; omega
    clear hk h4
    go_enter Tryd.func27, Tryd.ntmps27
    go_wp2
    exact bodyPost_ret (v := .agg #[.int .i64 k, .string ⟨p.toArray⟩, .int .i64 i]) (by simp [results, Tryd.results27, go_sem]) rfl ⟨by rw [HT.out], (Below.refl _ _).alloc (Nat.le_refl _) _⟩
end Go.Proofs.YtbeodifgekhhpaaDoor
