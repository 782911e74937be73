/-
  LexerMatchesReference returns true, for every text.
-/
import Derived.Test.YtbeodifgekhhpaaDoorLexRefTop
namespace Go.Proofs.YtbeodifgekhhpaaDoor
open Go.RowKit
attribute [local go_sem] ba_get ba_extract ba_append

theorem refLex_ok (l : List UInt8) (ts : List Lex.Tok) (w : World) (hl : l.length ≤ 100000) (h : Lex.lexF l = .ok ts) :
    Calls Tryd.prog 13 #[.string ⟨l.toArray⟩] w (LexOk ts w) := by
  refine (refLex_any l w hl).mono ?_
  rintro e w' ⟨hb, hm⟩
  rw [h] at hm
  obtain ⟨v, he, ho⟩ := hm
  obtain ⟨A, c, rfl, hc, ht⟩ := toks_of_own ho
  exact ⟨hb, A, c, he, hc, ht⟩
theorem refLex_err (l : List UInt8) (n off : Nat) (w : World) (hl : l.length ≤ 100000) (h : Lex.lexF l = .error (n, off)) :
    Calls Tryd.prog 13 #[.string ⟨l.toArray⟩] w fun e w' => e = .returned (.tuple #[.slice none 0 0, .int .i64 n, .int .i64 off]) ∧ Below w.heap.size w w' := by
  refine (refLex_any l w hl).mono ?_
  rintro e w' ⟨hb, hm⟩
  rw [h] at hm
  exact ⟨hm, hb⟩
set_option maxHeartbeats 1000000 in
set_option maxRecDepth 100000 in
theorem matches_walk (s : List UInt8) (w : World) (hs : s.length ≤ maxLen) (hS : Syms w) :
    Calls Tryd.prog 3 #[.string ⟨s.toArray⟩] w fun e w' => e = .returned (.bool true) ∧ Below w.heap.size w w' := by
  have HM := Lib.hid hs
  unfold maxLen at hs
  have HS := Lib.hid hS; clear hS
  by_cases h1 : s.length ≤ 8100
  · have b1 : decide (s.length ≤ 8100) = true := by simp; omega
    cases hF : Lex.lexF s with
    | ok ts =>
      have HF := Lib.hid hF; clear hF
      have h3 := (Lex.lexF_ok HF.out).2.2
      go_enter Tryd.func3, Tryd.ntmps3
      go_wp2_with fail
      refine (head_any _ HS.out).mono ?_
      rintro e w1 ⟨rfl, hb1⟩
      have HS1 := Lib.hid (HS.out.below hb1 (sym_lt HS.out))
      go_wp2_with fail
      refine (small_any s _ HM.out).mono ?_
      rintro e w1 ⟨rfl, rfl⟩
      go_wp2_with fail
      refine (lex_ok s ts _ (by omega) HS1.out HF.out).mono ?_
      rintro e w2 ⟨hb2, A, c, rfl, hc1, ht1⟩
      go_wp2_with fail
      refine (refLex_ok s ts _ (by omega) HF.out).mono ?_
      rintro e w3 ⟨hb3, A3, c3, rfl, hc3, ht3⟩
      have HT1 := Lib.hid (ht1.below hb3)
      have HT3 := Lib.hid ht3
      clear ht1 ht3 hc1 hc3
      go_wp2_with fail
      refine (same_any ts _ _ _ _ _ _ _ (by omega) HT1.out HT3.out).mono ?_
      rintro e w4 ⟨rfl, hb4⟩
      go_wp2
      go_ret
      exact ⟨rfl, bt (bt (bt hb1 hb2) hb3) hb4⟩
    | error y =>
      obtain ⟨er, at_⟩ := y
      have HF := Lib.hid hF
      clear hF
      have he := (Lex.lexF_err HF.out).2
      go_enter Tryd.func3, Tryd.ntmps3
      go_wp2_with fail
      refine (head_any _ HS.out).mono ?_
      rintro e w1 ⟨rfl, hb1⟩
      have HS1 := Lib.hid (HS.out.below hb1 (sym_lt HS.out))
      go_wp2_with fail
      refine (small_any s _ HM.out).mono ?_
      rintro e w1 ⟨rfl, rfl⟩
      go_wp2_with fail
      refine (lex_err s _ at_ _ (by omega) HS1.out HF.out).mono ?_
      rintro e w2 ⟨rfl, hb2⟩
      go_wp2_with fail
      refine (refLex_err s _ at_ _ (by omega) HF.out).mono ?_
      rintro e w3 ⟨rfl, hb3⟩
      go_wp2_with fail
      refine (same_at [] 0 none none 0 0 0 0 _ rfl (by omega) (fun h => absurd rfl h) (fun h => absurd rfl h)).mono ?_
      rintro e w4 ⟨rfl, hb4⟩
      go_wp2
      go_ret
      exact ⟨rfl, bt (bt (bt hb1 hb2) hb3) hb4⟩
  · have b1 : decide (s.length ≤ 8100) = false := by simp; omega
    go_enter Tryd.func3, Tryd.ntmps3
    go_wp2_with fail
    refine (head_any _ HS.out).mono ?_
    rintro e w1 ⟨rfl, hb1⟩
    go_wp2_with fail
    refine (small_any s _ HM.out).mono ?_
    rintro e w1 ⟨rfl, rfl⟩
    go_wp2
    go_ret
    exact ⟨rfl, hb1⟩
end Go.Proofs.YtbeodifgekhhpaaDoor
