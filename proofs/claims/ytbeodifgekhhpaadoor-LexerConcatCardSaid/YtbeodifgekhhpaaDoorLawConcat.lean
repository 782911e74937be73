/-
  LexerConcat returns true, for all texts.
-/
import Derived.Test.YtbeodifgekhhpaaDoorLexRef
import Derived.Test.YtbeodifgekhhpaaDoorLexScan
namespace Go.Proofs.YtbeodifgekhhpaaDoor
open Go.RowKit
attribute [local go_sem] ba_get ba_extract ba_append

theorem tok_bounds {s : List UInt8} {ts : List Lex.Tok} (h : Lex.lexF s = .ok ts) (i : Nat) (hi : i < ts.length) : ts[i].at_ ≤ 8000 := by
  obtain ⟨hl, hs, h3⟩ := Lex.lexF_ok h
  have := (Lex.scan_pos s 0).1 ts[i] (by rw [hs]; exact List.getElem_mem hi)
  omega
/-- The way through the law up to the three calls. -/
def ConcatEnds (w : World) (e : Ending) (w' : World) : Prop := e = .returned (.bool true) ∧ Below w.heap.size w w'
set_option maxHeartbeats 1000000 in
set_option maxRecDepth 100000 in
theorem concat_walk (a b : List UInt8) (w : World) (ha : a.length ≤ maxLen) (hb : b.length ≤ maxLen) (hS : Syms w) :
    Calls Tryd.prog 7 #[.string ⟨a.toArray⟩, .string ⟨b.toArray⟩] w fun e w' => e = .returned (.bool true) ∧ Below w.heap.size w w' := by
  unfold maxLen at ha hb
  have HS := Lib.hid hS; clear hS
  by_cases h1 : a.length ≤ 4000 ∧ b.length ≤ 3999
  · obtain ⟨h1, h2⟩ := h1
    have b1 : decide (4000 < (a.length : Int)) = false := by simp; omega
    have b2 : decide (3999 < (b.length : Int)) = false := by simp; omega
    have b1' : decide (4000 < a.length) = false := by simp; omega
    have b2' : decide (3999 < b.length) = false := by simp; omega
    have hlc : (a ++ 10 :: b).length ≤ 100000 := by simp; omega
    have HLC := Lib.hid hlc; clear hlc
    cases hA : Lex.lexF a with
    | error y =>
      obtain ⟨er, at_⟩ := y
      have HA := Lib.hid hA
      have HC := Lib.hid (Lex.concat_err h1 h2 hA)
      have he := (Lex.lexF_err hA).1
      clear hA
      have e1 : ((er : Int) != 0) = true := by simp; omega
      cases hB : Lex.lexF b with
      | error z =>
        obtain ⟨er2, at2⟩ := z
        have HB := Lib.hid hB; clear hB
        go_enter Tryd.func7, Tryd.ntmps7
        go_wp2_with fail
        refine (head_any _ HS.out).mono ?_
        rintro e w1 ⟨rfl, hb1⟩
        have HS1 := Lib.hid (HS.out.below hb1 (sym_lt HS.out))
        go_wp2_with fail
        refine (lex_err a _ at_ _ (by omega) HS1.out HA.out).mono ?_
        rintro e w2 ⟨rfl, hb2⟩
        have HS2 := Lib.hid (HS1.out.below hb2 (sym_lt HS1.out))
        go_wp2_with fail
        refine (lex_err b _ at2 _ (by omega) HS2.out HB.out).mono ?_
        rintro e w3 ⟨rfl, hb3⟩
        have HS3 := Lib.hid (HS2.out.below hb3 (sym_lt HS2.out))
        go_wp2_with fail
        refine (lex_err _ _ at_ _ HLC.out HS3.out HC.out).mono ?_
        rintro e w4 ⟨rfl, hb4⟩
        go_wp2
        go_ret
        exact ⟨rfl, bt (bt (bt hb1 hb2) hb3) hb4⟩
      | ok ys =>
        have HB := Lib.hid hB; clear hB
        go_enter Tryd.func7, Tryd.ntmps7
        go_wp2_with fail
        refine (head_any _ HS.out).mono ?_
        rintro e w1 ⟨rfl, hb1⟩
        have HS1 := Lib.hid (HS.out.below hb1 (sym_lt HS.out))
        go_wp2_with fail
        refine (lex_err a _ at_ _ (by omega) HS1.out HA.out).mono ?_
        rintro e w2 ⟨rfl, hb2⟩
        have HS2 := Lib.hid (HS1.out.below hb2 (sym_lt HS1.out))
        go_wp2_with fail
        refine (lex_ok b ys _ (by omega) HS2.out HB.out).mono ?_
        rintro e w3 ⟨hb3, A, c, rfl, hc, ht⟩
        have HS3 := Lib.hid (HS2.out.below hb3 (sym_lt HS2.out))
        clear ht hc
        go_wp2_with fail
        refine (lex_err _ _ at_ _ HLC.out HS3.out HC.out).mono ?_
        rintro e w4 ⟨rfl, hb4⟩
        go_wp2
        go_ret
        exact ⟨rfl, bt (bt (bt hb1 hb2) hb3) hb4⟩
    | ok xs =>
      have HA := Lib.hid hA
      have hx3 := (Lex.lexF_ok hA).2.2
      cases hB : Lex.lexF b with
      | error z =>
        obtain ⟨er2, at2⟩ := z
        have HB := Lib.hid hB
        have he := (Lex.lexF_err hB).1
        clear hB hA
        have e1 : ((er2 : Int) != 0) = true := by simp; omega
        go_enter Tryd.func7, Tryd.ntmps7
        go_wp2_with fail
        refine (head_any _ HS.out).mono ?_
        rintro e w1 ⟨rfl, hb1⟩
        have HS1 := Lib.hid (HS.out.below hb1 (sym_lt HS.out))
        go_wp2_with fail
        refine (lex_ok a xs _ (by omega) HS1.out HA.out).mono ?_
        rintro e w2 ⟨hb2, A, c, rfl, hc, ht⟩
        clear ht hc
        have HS2 := Lib.hid (HS1.out.below hb2 (sym_lt HS1.out))
        go_wp2_with fail
        refine (lex_err b _ at2 _ (by omega) HS2.out HB.out).mono ?_
        rintro e w3 ⟨rfl, hb3⟩
        have HS3 := Lib.hid (HS2.out.below hb3 (sym_lt HS2.out))
        go_wp2_with fail
        refine (lex_any _ _ HLC.out HS3.out).mono ?_
        rintro e w4 ⟨hb4, hm⟩
        obtain ⟨v1, v2, v3, he4⟩ : ∃ v1 v2 v3, e = .returned (.tuple #[v1, v2, v3]) := by
          cases hl : Lex.lexF (a ++ 10 :: b) with
          | error x => rw [hl] at hm; exact ⟨_, _, _, hm⟩
          | ok ts => rw [hl] at hm; obtain ⟨v, hv, _⟩ := hm; exact ⟨_, _, _, hv⟩
        subst he4
        clear hm
        go_wp2
        go_ret
        exact ⟨rfl, bt (bt (bt hb1 hb2) hb3) hb4⟩
      | ok ys =>
        have HB := Lib.hid hB
        have hy3 := (Lex.lexF_ok hB).2.2
        obtain ⟨hc1, hc2⟩ := Lex.concat_ok h1 h2 hA hB
        clear hB hA
        by_cases h3 : xs.length + ys.length ≤ 3000
        · have h3' : (xs.length : Int) + (ys.length : Int) ≤ 3000 := by omega
          obtain ⟨zs, hzs⟩ : ∃ zs, zs = xs ++ ys.map (Lex.shiftTok (a.length + 1)) := ⟨_, rfl⟩
          have hcz := hc2 h3
          rw [← hzs] at hcz
          have HC := Lib.hid hcz
          have hzl : zs.length = xs.length + ys.length := by rw [hzs]; simp
          have HZL := Lib.hid hzl
          have HZS := Lib.hid hzs
          clear hc1 hc2 hcz hzl hzs
          go_enter Tryd.func7, Tryd.ntmps7
          go_wp2_with fail
          refine (head_any _ HS.out).mono ?_
          rintro e w1 ⟨rfl, hb1⟩
          have HS1 := Lib.hid (HS.out.below hb1 (sym_lt HS.out))
          go_wp2_with fail
          refine (lex_ok a xs _ (by omega) HS1.out HA.out).mono ?_
          rintro e w2 ⟨hb2, A, c, rfl, hc, ht⟩
          have HS2 := Lib.hid (HS1.out.below hb2 (sym_lt HS1.out))
          go_wp2_with fail
          refine (lex_ok b ys _ (by omega) HS2.out HB.out).mono ?_
          rintro e w3 ⟨hb3, A2, c2, rfl, hc2, ht2⟩
          have HS3 := Lib.hid (HS2.out.below hb3 (sym_lt HS2.out))
          go_wp2_with fail
          refine (lex_ok _ zs _ HLC.out HS3.out HC.out).mono ?_
          rintro e w4 ⟨hb4, A3, c3, rfl, hc3, ht3⟩
          rw [HZL.out]
          have HX := Lib.hid ((ht.below hb3).below hb4)
          have HY := Lib.hid (ht2.below hb4)
          have HZ := Lib.hid ht3
          clear ht ht2 ht3 hc hc2 hc3
          go_wp2_with fail
          go_loopg [15] (xs.length + ys.length) (fun g i wr => ∃ k : Nat, k + g = xs.length + ys.length ∧ i = .int .i64 k ∧ Below w4.heap.size w4 wr)
          case atStart => exact ⟨0, by omega, rfl, Below.refl _ _⟩
          case round =>
            obtain ⟨k, hk, rfl, hbr⟩ := hrel
            cases gk with
            | zero =>
              have hkz : ¬ ((k : Int) < (xs.length : Int) + (ys.length : Int)) := by omega
              go_wp2
              go_ret
              exact ⟨rfl, bt (bt (bt (bt hb1 hb2) hb3) hb4) hbr⟩
            | succ g =>
              have hkz : (k : Int) < (xs.length : Int) + (ys.length : Int) := by omega
              have hki : (0 : Int) ≤ (k : Int) := Int.natCast_nonneg _
              obtain ⟨bz, rfl, _, hbz⟩ := (HZ.out.below hbr).addr (by have := HZL.out; omega)
              obtain ⟨z1, z2, z3⟩ := (HZ.out.below hbr).cells k (by have := HZL.out; omega)
              by_cases hx : k < xs.length
              · have hx' : (k : Int) < (xs.length : Int) := by omega
                obtain ⟨bx, rfl, _, hbx⟩ := (HX.out.below hbr).addr (by omega)
                obtain ⟨x1, x2, x3⟩ := (HX.out.below hbr).cells k hx
                have hzx : zs[k]'(by have := HZL.out; omega) = xs[k] := by simp only [HZS.out]; exact List.getElem_append_left hx
                rw [hzx] at z1 z2 z3
                clear hzx
                have hxt := tok_bounds HA.out k hx
                obtain ⟨t, ht⟩ : ∃ t, xs[k] = t := ⟨_, rfl⟩
                rw [ht] at z1 z2 z3 x1 x2 x3 hxt
                clear ht
                go_wp2
                go_quiet (fail)
                go_wp2
                go_roundg g
                case measure => omega
                case rel => exact ⟨k + 1, by omega, by first | rfl | simp, below_drewN (hbr.alloc hbr.size _) _⟩
              · have hx' : ¬ (k : Int) < (xs.length : Int) := by omega
                have hx'' : (xs.length : Int) ≤ (k : Int) := by omega
                obtain ⟨m, rfl⟩ : ∃ m, k = xs.length + m := ⟨k - xs.length, by omega⟩
                have hm : m < ys.length := by omega
                have hm' : (m : Int) < (ys.length : Int) := by omega
                obtain ⟨bx, rfl, _, hbx⟩ := (HY.out.below hbr).addr (by omega)
                obtain ⟨x1, x2, x3⟩ := (HY.out.below hbr).cells m hm
                have hzx : zs[xs.length + m]'(by have := HZL.out; omega) = Lex.shiftTok (a.length + 1) ys[m] := by
                  simp only [HZS.out]
                  rw [List.getElem_append_right (by omega)]
                  simp
                rw [hzx] at z1 z2 z3
                clear hzx
                have hxt := tok_bounds HB.out m hm
                obtain ⟨t, ht⟩ : ∃ t, ys[m] = t := ⟨_, rfl⟩
                rw [ht] at z1 z2 z3 x1 x2 x3 hxt
                clear ht
                simp only [Lex.shiftTok] at z1 z2 z3
                rw [show ((t.at_ + (a.length + 1) : Nat) : Int) = (t.at_ : Int) + (a.length : Int) + 1 by omega] at z3
                have hk1 : (xs.length : Int) + (m : Int) < (xs.length : Int) + (ys.length : Int) := by omega
                have hk0 : (0 : Int) ≤ (xs.length : Int) + (m : Int) := by omega
                go_wp2
                have hkn : ((xs.length : Int) + (m : Int)).toNat = xs.length + m := by omega
                go_quiet (fail)
                clear hkn
                go_wp2
                go_roundg g
                case measure => omega
                case rel => exact ⟨xs.length + m + 1, by omega, by first | rfl | simp | go_num, below_drewN (hbr.alloc hbr.size _) _⟩
        · have h3' : 3000 < (xs.length : Int) + (ys.length : Int) := by omega
          obtain ⟨off, hoff, hco⟩ := hc1 (by omega)
          have HC := Lib.hid hco
          clear hc1 hc2 hco
          go_enter Tryd.func7, Tryd.ntmps7
          go_wp2_with fail
          refine (head_any _ HS.out).mono ?_
          rintro e w1 ⟨rfl, hb1⟩
          have HS1 := Lib.hid (HS.out.below hb1 (sym_lt HS.out))
          go_wp2_with fail
          refine (lex_ok a xs _ (by omega) HS1.out HA.out).mono ?_
          rintro e w2 ⟨hb2, A, c, rfl, hc, ht⟩
          clear ht hc
          have HS2 := Lib.hid (HS1.out.below hb2 (sym_lt HS1.out))
          go_wp2_with fail
          refine (lex_ok b ys _ (by omega) HS2.out HB.out).mono ?_
          rintro e w3 ⟨hb3, A2, c2, rfl, hc2, ht2⟩
          clear ht2 hc2
          have HS3 := Lib.hid (HS2.out.below hb3 (sym_lt HS2.out))
          go_wp2_with fail
          refine (lex_err _ _ off _ HLC.out HS3.out HC.out).mono ?_
          rintro e w4 ⟨rfl, hb4⟩
          go_wp2
          go_ret
          exact ⟨rfl, bt (bt (bt hb1 hb2) hb3) hb4⟩
  · have h1' : 4000 < (a.length : Int) ∨ 3999 < (b.length : Int) := by omega
    by_cases h4 : 4000 < a.length
    · have b1 : 4000 < (a.length : Int) := by omega
      go_enter Tryd.func7, Tryd.ntmps7
      go_wp2_with fail
      refine (head_any _ HS.out).mono ?_
      rintro e w1 ⟨rfl, hb1⟩
      go_wp2
      go_ret
      exact ⟨rfl, hb1⟩
    · have b1 : 3999 < (b.length : Int) := by omega
      have b2 : ¬ 4000 < (a.length : Int) := by omega
      go_enter Tryd.func7, Tryd.ntmps7
      go_wp2_with fail
      refine (head_any _ HS.out).mono ?_
      rintro e w1 ⟨rfl, hb1⟩
      go_wp2
      go_ret
      exact ⟨rfl, hb1⟩
end Go.Proofs.YtbeodifgekhhpaaDoor
