/-
  LexerCover returns true, for every text.
-/
import Derived.Test.YtbeodifgekhhpaaDoorLexKind
import Derived.Test.YtbeodifgekhhpaaDoorLexCoverT
import Derived.Test.YtbeodifgekhhpaaDoorLawPrefixes
namespace Go.Proofs.YtbeodifgekhhpaaDoor
open Go.RowKit
attribute [local go_sem] ba_get ba_extract ba_append

set_option maxHeartbeats 2000000 in
set_option maxRecDepth 100000 in
theorem cover_walk (s : List UInt8) (w : World) (hs : s.length ≤ maxLen) (hS : Syms w) :
    Calls Tryd.prog 4 #[.string ⟨s.toArray⟩] w fun e w' => e = .returned (.bool true) ∧ Below w.heap.size w w' := by
  have HM := Lib.hid hs
  unfold maxLen at hs
  have HS := Lib.hid hS; clear hS
  by_cases h1 : s.length ≤ 8100
  · have b1 : decide (s.length ≤ 8100) = true := by simp; omega
    cases hF : Lex.lexF s with
    | ok ts =>
      have HF := Lib.hid hF; clear hF
      have h3 := (Lex.lexF_ok HF.out).2.2
      have h8 := (Lex.lexF_ok HF.out).1
      go_enter Tryd.func4, Tryd.ntmps4
      go_wp2_with fail
      refine (head_any _ HS.out).mono ?_
      rintro e w1 ⟨rfl, hb1⟩
      have HS1 := Lib.hid (HS.out.below hb1 (sym_lt HS.out))
      go_wp2_with fail
      refine (small_any s _ HM.out).mono ?_
      rintro e w1 ⟨rfl, rfl⟩
      go_wp2_with fail
      refine (lex_ok s ts _ (by omega) HS1.out HF.out).mono ?_
      rintro e w2 ⟨hb2, A, c, rfl, hc1, ht1⟩
      have HT1 := Lib.hid ht1; clear ht1
      go_wp2_with fail
      go_loopg [7, 8] ts.length (fun g at_ i wr => ∃ k o : Nat, k + g = ts.length ∧ i = .int .i64 k ∧ at_ = .int .i64 o ∧ o ≤ s.length ∧ Hid (Lex.scan (s.drop o) o = (ts.drop k, none)) ∧ Below w2.heap.size w2 wr)
      case atStart => exact ⟨0, 0, by omega, rfl, rfl, by omega, (Lex.lexF_ok HF.out).2.1, Below.refl _ _⟩
      case round =>
        obtain ⟨i, o, hig, rfl, rfl, ho, HSC, hbr⟩ := hrel
        cases gk with
        | zero =>
          have hkz : ¬ ((i : Int) < (ts.length : Int)) := by omega
          have hge : Lex.gapLen false (s.drop o) = (s.drop o).length := Lex.cover_end (ts := ts) (by have := HSC.out; rw [show i = ts.length by omega] at this; exact this)
          have cG := fun W => gap_true (s.drop o) W (by simp; omega) hge
          have CG := Lib.hid cG
          clear cG hge
          go_wp2_with (go_at_call 16; refine (CG.out _).mono ?_; rintro e w3 ⟨rfl, rfl⟩)
          go_ret
          exact ⟨rfl, bt (bt hb1 hb2) hbr⟩
        | succ g =>
          have hil : i < ts.length := by omega
          have hkz : (i : Int) < (ts.length : Int) := by omega
          have hki : (0 : Int) ≤ (i : Int) := Int.natCast_nonneg _
          obtain ⟨hk1, hk2, hk3⟩ := tok_kind HF.out i hil
          obtain ⟨n, hn0, hoa, han, hgp, hsrc, hpl, hrk, hnx⟩ := Lex.cover_at ho HSC.out hil
          obtain ⟨b, rfl, _, hbl⟩ := (HT1.out.below hbr).addr (by omega)
          obtain ⟨a1, a2, a3⟩ := (HT1.out.below hbr).cells i hil
          obtain ⟨t, ht⟩ : ∃ t, ts[i] = t := ⟨_, rfl⟩
          rw [ht] at hk1 hk2 hk3 a1 a2 a3 hoa han hgp hsrc hpl hrk hnx
          clear ht
          obtain ⟨k, x, a⟩ := t
          simp only at hk1 hk2 hk3 a1 a2 a3 hoa han hgp hsrc hpl hrk hnx
          have cT := fun W => source_any k x (a : Int) W hk1 (by omega)
          rw [show srcF k x = (s.take (a + n)).drop a from hsrc] at cT
          have CT := Lib.hid cT
          have cK := fun W => kind_call ((s.take (a + n)).drop a) W (by rw [hpl]; omega)
          rw [hrk] at cK
          have CK := Lib.hid cK
          have cG := fun W => gap_true ((s.take a).drop o) W (by simp; omega) hgp
          have CG := Lib.hid cG
          have HPL := Lib.hid hpl
          have HNX := Lib.hid hnx
          clear cT cK cG hgp hsrc hrk hpl hnx HSC
          have i1 : (o : Int) ≤ (a : Int) := by omega
          have i2 : (a : Int) + (n : Int) ≤ (s.length : Int) := by omega
          have i3 : (a : Int) ≤ (s.length : Int) := by omega
          have i4 : (a : Int) ≤ (a : Int) + (n : Int) := by omega
          have i5 : (0 : Int) ≤ (a : Int) := Int.natCast_nonneg _
          have i6 : (0 : Int) ≤ (o : Int) := Int.natCast_nonneg _
          go_wp2_with fail
          refine (CT.out _).mono ?_
          rintro e w3 ⟨rfl, hb3⟩
          have c1 : w3.cell? ⟨b, i * 3, none⟩ = some (.int .i64 k) := by rw [hb3.cell (by exact hbl)]; exact a1
          have c2 : w3.cell? ⟨b, i * 3 + 1, none⟩ = some (.string ⟨x.toArray⟩) := by rw [hb3.cell (by exact hbl)]; exact a2
          have c3 : w3.cell? ⟨b, i * 3 + 2, none⟩ = some (.int .i64 a) := by rw [hb3.cell (by exact hbl)]; exact a3
          clear a1 a2 a3
          go_wp2_with fail
          have d1 : decide ((a : Int) < (o : Int)) = false := by simp; omega
          have d1' : decide (a < o) = false := by simp; omega
          have d2 : ((n : Int) == 0) = false := by simp; omega
          have d3 : decide ((s.length : Int) - (a : Int) < (n : Int)) = false := by simp; omega
          have d6 : (0 : Int) ≤ (a : Int) + (n : Int) := by omega
          have d4 : IntKind.i64.wrap ((a : Int) + (n : Int)) = (a : Int) + (n : Int) := IntWalk.i64_in _ (by omega)
          have d7 : IntKind.i64.wrap ((s.length : Int) - (a : Int)) = (s.length : Int) - (a : Int) := IntWalk.i64_in _ (by omega)
          have d5 : ((a : Int) + (n : Int)).toNat = a + n := by omega
          go_quiet ((go_at_call 16; exact quiet_left (CG.out _)))
          clear d4 d5 d7
          go_wp2_with fail
          refine (CK.out _).mono ?_
          rintro e w4 ⟨rfl, hb4⟩
          have e1 : w4.cell? ⟨b, i * 3, none⟩ = some (.int .i64 k) := by rw [hb4.cell (by exact Nat.lt_of_lt_of_le hbl hb3.size)]; exact c1
          have e2 : w4.cell? ⟨b, i * 3 + 1, none⟩ = some (.string ⟨x.toArray⟩) := by rw [hb4.cell (by exact Nat.lt_of_lt_of_le hbl hb3.size)]; exact c2
          have e3 : w4.cell? ⟨b, i * 3 + 2, none⟩ = some (.int .i64 a) := by rw [hb4.cell (by exact Nat.lt_of_lt_of_le hbl hb3.size)]; exact c3
          clear c1 c2 c3
          go_wp2
          go_roundg g
          case measure => omega
          case rel => exact ⟨i + 1, a + n, by omega, by first | rfl | simp, by first | rfl | simp | go_num, by omega, HNX, bt (bt hbr hb3) (bdrN hb4)⟩
    | error y =>
      obtain ⟨er, at_⟩ := y
      have HF := Lib.hid hF
      have he := (Lex.lexF_err hF).1
      clear hF
      have e1 : ((er : Int) != 0) = true := by simp; omega
      go_enter Tryd.func4, Tryd.ntmps4
      go_wp2_with fail
      refine (head_any _ HS.out).mono ?_
      rintro e w1 ⟨rfl, hb1⟩
      have HS1 := Lib.hid (HS.out.below hb1 (sym_lt HS.out))
      go_wp2_with fail
      refine (small_any s _ HM.out).mono ?_
      rintro e w1 ⟨rfl, rfl⟩
      go_wp2_with fail
      refine (lex_err s _ at_ _ (by omega) HS1.out HF.out).mono ?_
      rintro e w2 ⟨rfl, hb2⟩
      go_wp2
      go_ret
      exact ⟨rfl, bt hb1 hb2⟩
  · have b1 : decide (s.length ≤ 8100) = false := by simp; omega
    go_enter Tryd.func4, Tryd.ntmps4
    go_wp2_with fail
    refine (head_any _ HS.out).mono ?_
    rintro e w1 ⟨rfl, hb1⟩
    go_wp2_with fail
    refine (small_any s _ HM.out).mono ?_
    rintro e w1 ⟨rfl, rfl⟩
    go_wp2
    go_ret
    exact ⟨rfl, hb1⟩
end Go.Proofs.YtbeodifgekhhpaaDoor
