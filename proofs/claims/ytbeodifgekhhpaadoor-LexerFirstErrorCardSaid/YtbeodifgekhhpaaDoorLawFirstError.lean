/-
  LexerFirstError returns true, for all texts.
-/
import Derived.Test.YtbeodifgekhhpaaDoorLexHead
import Derived.Test.YtbeodifgekhhpaaDoorLexScan
namespace Go.Proofs.YtbeodifgekhhpaaDoor
open Go.RowKit
attribute [local go_sem] ba_get ba_extract ba_append

set_option maxHeartbeats 1000000 in
set_option maxRecDepth 100000 in
theorem firstError_walk (s more : List UInt8) (w : World) (hs : s.length ≤ maxLen) (hm : more.length ≤ maxLen) (hS : Syms w) :
    Calls Tryd.prog 8 #[.string ⟨s.toArray⟩, .string ⟨more.toArray⟩] w fun e w' => e = .returned (.bool true) ∧ Below w.heap.size w w' := by
  unfold maxLen at hs hm
  have HS := Lib.hid hS; clear hS
  by_cases h1 : s.length ≤ 8000
  · have b1 : decide (8000 < (s.length : Int)) = false := by simp; omega
    have b1' : decide (8000 < s.length) = false := by simp; omega
    by_cases h2 : more.length ≤ 60
    · have b2 : decide (60 < (more.length : Int)) = false := by simp; omega
      have b2' : decide (60 < more.length) = false := by simp; omega
      cases hF : Lex.lexF s with
      | ok ts =>
        have HF := Lib.hid hF; clear hF
        go_enter Tryd.func8, Tryd.ntmps8
        go_wp2_with fail
        refine (head_any _ HS.out).mono ?_
        rintro e w1 ⟨rfl, hb1⟩
        have HS1 := Lib.hid (HS.out.below hb1 (sym_lt HS.out))
        go_wp2_with fail
        refine (lex_ok s ts _ (by omega) HS1.out HF.out).mono ?_
        rintro e w2 ⟨hb2, A, c, rfl, hc1, ht1⟩
        go_wp2
        go_ret
        exact ⟨rfl, bt hb1 hb2⟩
      | error x =>
        obtain ⟨er, at_⟩ := x
        obtain ⟨he, hat, ts, hpre⟩ := Lex.firstError h1 hF
        have HF := Lib.hid hF
        have HP := Lib.hid hpre
        have HM := Lib.hid (fun fin => Lex.firstError_more (more := more) (fin := fin) h1 hF)
        clear hF hpre
        have e1 : ((er : Int) == 0) = false := by simp; omega
        have e1' : ((er : Int) != 0) = true := by simp; omega
        have e2 : (((er : Int) != 30) && ((er : Int) != 2)) = false := by rcases he with rfl | rfl <;> rfl
        have hat' : (at_ : Int) < (s.length : Int) := by omega
        rcases he with rfl | rfl
        all_goals
          clear e1 e1' e2
          go_enter Tryd.func8, Tryd.ntmps8
          go_wp2_with fail
          refine (head_any _ HS.out).mono ?_
          rintro e w1 ⟨rfl, hb1⟩
          have HS1 := Lib.hid (HS.out.below hb1 (sym_lt HS.out))
          go_wp2_with fail
          refine (lex_err s _ at_ _ (by omega) HS1.out HF.out).mono ?_
          rintro e w2 ⟨rfl, hb2⟩
          have HS2 := Lib.hid (HS1.out.below hb2 (sym_lt HS1.out))
          go_wp2_with fail
          refine (lex_ok (s.take at_) ts _ (by simp; omega) HS2.out HP.out).mono ?_
          rintro e w3 ⟨hb3, A, c, rfl, hc1, ht1⟩
          have HS3 := Lib.hid (HS2.out.below hb3 (sym_lt HS2.out))
          clear ht1 hc1
          go_wp2_with fail
          go_loop [12] (fun i => ∃ k : Nat, at_ ≤ k ∧ k ≤ s.length ∧ i = .int .i64 k) (fun i => s.length - (intOf i).toNat)
          case atStart => exact ⟨at_, Nat.le_refl _, by omega, rfl⟩
          case round =>
            obtain ⟨k, hk1, hk2, rfl⟩ := hrel
            by_cases hc : ∃ hlt : k < s.length, s[k].toNat ≠ 10
            · obtain ⟨hlt, hne⟩ := hc
              have b5 : ((s[k].toNat : Int) != 10) = true := by simp; omega
              go_wp2
              go_round
              case rel => exact ⟨k + 1, by omega, by omega, by go_num⟩
              case measure => simp [intOf]; omega
            · have hnl : ∀ hf : k < s.length, s[k].toNat = 10 := fun hf => Classical.byContradiction fun hne => hc ⟨hf, hne⟩
              have HE := Lib.hid (HM.out k hk1 hk2 hnl)
              by_cases hlt : k < s.length
              · have b5 : ((s[k].toNat : Int) != 10) = false := by simp; have := hnl hlt; omega
                clear hnl hc HM
                by_cases h8 : k + 1 + more.length ≤ 8000
                · have h8' : (k : Int) + 1 + (more.length : Int) ≤ 8000 := by omega
                  have HE' := Lib.hid (HE.out (by simp; omega))
                  go_wp2_with fail
                  refine (lex_err _ _ at_ _ (by simp; omega) HS3.out HE'.out).mono ?_
                  rintro e w4 ⟨rfl, hb4⟩
                  go_wp2
                  go_ret
                  exact ⟨rfl, bt (bt (bt hb1 hb2) hb3) hb4⟩
                · have h8' : 8000 < (k : Int) + 1 + (more.length : Int) := by omega
                  go_wp2
                  go_ret
                  exact ⟨rfl, bt (bt hb1 hb2) hb3⟩
              · clear hnl hc HM
                by_cases h8 : k + 1 + more.length ≤ 8000
                · have h8' : (k : Int) + 1 + (more.length : Int) ≤ 8000 := by omega
                  have HE' := Lib.hid (HE.out (by simp; omega))
                  go_wp2_with fail
                  refine (lex_err _ _ at_ _ (by simp; omega) HS3.out HE'.out).mono ?_
                  rintro e w4 ⟨rfl, hb4⟩
                  go_wp2
                  go_ret
                  exact ⟨rfl, bt (bt (bt hb1 hb2) hb3) hb4⟩
                · have h8' : 8000 < (k : Int) + 1 + (more.length : Int) := by omega
                  go_wp2
                  go_ret
                  exact ⟨rfl, bt (bt hb1 hb2) hb3⟩
    · have b2 : 60 < (more.length : Int) := by omega
      go_enter Tryd.func8, Tryd.ntmps8
      go_wp2_with fail
      refine (head_any _ HS.out).mono ?_
      rintro e w1 ⟨rfl, hb1⟩
      go_wp2
      go_ret
      exact ⟨rfl, hb1⟩
  · have b1 : 8000 < (s.length : Int) := by omega
    go_enter Tryd.func8, Tryd.ntmps8
    go_wp2_with fail
    refine (head_any _ HS.out).mono ?_
    rintro e w1 ⟨rfl, hb1⟩
    go_wp2
    go_ret
    exact ⟨rfl, hb1⟩
end Go.Proofs.YtbeodifgekhhpaaDoor
