/-
  LexerRuns returns true, for every text.
-/
import Derived.Test.YtbeodifgekhhpaaDoorLexRef
import Derived.Test.YtbeodifgekhhpaaDoorLexRunsT
import Derived.Test.YtbeodifgekhhpaaDoorLawPrefixes
namespace Go.Proofs.YtbeodifgekhhpaaDoor
open Go.RowKit
attribute [local go_sem] ba_get ba_extract ba_append

set_option maxHeartbeats 2000000 in
set_option maxRecDepth 100000 in
theorem runs_walk (s : List UInt8) (w : World) (hs : s.length ≤ maxLen) (hS : Syms w) :
    Calls Tryd.prog 6 #[.string ⟨s.toArray⟩] w fun e w' => e = .returned (.bool true) ∧ Below w.heap.size w w' := by
  have HM := Lib.hid hs
  unfold maxLen at hs
  have HS := Lib.hid hS; clear hS
  by_cases h1 : s.length ≤ 8100
  · have b1 : decide (s.length ≤ 8100) = true := by simp; omega
    cases hF : Lex.lexF s with
    | ok ts =>
      have HF := Lib.hid hF; clear hF
      have h3 := (Lex.lexF_ok HF.out).2.2
      have h8 := (Lex.lexF_ok HF.out).1
      go_enter Tryd.func6, Tryd.ntmps6
      go_wp2_with fail
      refine (head_any _ HS.out).mono ?_
      rintro e w1 ⟨rfl, hb1⟩
      have HS1 := Lib.hid (HS.out.below hb1 (sym_lt HS.out))
      go_wp2_with fail
      refine (small_any s _ HM.out).mono ?_
      rintro e w1 ⟨rfl, rfl⟩
      go_wp2_with fail
      refine (lex_ok s ts _ (by omega) HS1.out HF.out).mono ?_
      rintro e w2 ⟨hb2, A, c, rfl, hc1, ht1⟩
      have HT1 := Lib.hid ht1; clear ht1
      go_wp2_with fail
      go_loopg [7] ts.length (fun g i wr => ∃ k : Nat, k + g = ts.length ∧ i = .int .i64 k ∧ Below w2.heap.size w2 wr)
      case atStart => exact ⟨0, by omega, rfl, Below.refl _ _⟩
      case round =>
        obtain ⟨i, hig, rfl, hbr⟩ := hrel
        cases gk with
        | zero =>
          have hkz : ¬ ((i : Int) < (ts.length : Int)) := by omega
          go_wp2
          go_ret
          exact ⟨rfl, bt (bt hb1 hb2) hbr⟩
        | succ g =>
          have hil : i < ts.length := by omega
          have hkz : (i : Int) < (ts.length : Int) := by omega
          have hki : (0 : Int) ≤ (i : Int) := Int.natCast_nonneg _
          obtain ⟨hk1, hk2, hk3⟩ := tok_kind HF.out i hil
          have hbes := Lex.beside HF.out i hil
          have hkk : ts[i].kind = 1 ∨ ts[i].kind = 2 ∨ ts[i].kind = 3 ∨ ts[i].kind = 4 := Lex.scan_kind s 0 ts[i] (by rw [(Lex.lexF_ok HF.out).2.1]; exact List.getElem_mem hil)
          have hsl := srcF_srcLen ts[i]
          obtain ⟨b, rfl, _, hbl⟩ := (HT1.out.below hbr).addr (by omega)
          obtain ⟨a1, a2, a3⟩ := (HT1.out.below hbr).cells i hil
          obtain ⟨t, ht⟩ : ∃ t, ts[i] = t := ⟨_, rfl⟩
          rw [ht] at hk1 hk2 hk3 hbes hkk hsl a1 a2 a3
          clear ht
          obtain ⟨k, x, a⟩ := t
          simp only at hk1 hk2 hk3 hkk a1 a2 a3 hsl
          obtain ⟨f1, f2, f3, f4, f5⟩ := hbes
          simp only at f1 f2 f3 f4 f5
          rw [← hsl] at f1 f2 f4
          obtain ⟨q, hq⟩ : ∃ q, q = srcF k x := ⟨_, rfl⟩
          have cT := fun W => source_any k x (a : Int) W hk1 (by omega)
          have hqx : q.length ≤ x.length + 2 := by rw [hq]; exact srcF_len k x
          rw [← hq] at f1 f2 f4 cT
          clear hsl hq
          have CT := Lib.hid cT; clear cT
          have F2 := Lib.hid f2; clear f2
          have F3 := Lib.hid f3; clear f3
          have F4 := Lib.hid f4; clear f4
          have F5 := Lib.hid f5; clear f5
          have f1' : (a : Int) + (q.length : Int) ≤ (s.length : Int) := by omega
          have f0 : (0 : Int) ≤ (a : Int) + (q.length : Int) := by omega
          go_wp2_with fail
          go_region_held3 (fun w' => w'.cell? ⟨b, i * 3, none⟩ = some (.int .i64 k) ∧ w'.cell? ⟨b, i * 3 + 1, none⟩ = some (.string ⟨x.toArray⟩) ∧ w'.cell? ⟨b, i * 3 + 2, none⟩ = some (.int .i64 a))
            (first | go_keep | (refine ⟨?_, ?_, ?_⟩ <;> (rw [hbt.cell (by exact hbl)]; first | exact a1 | exact a2 | exact a3)))
            (first
              | (go_at_call 15; refine (CT.out _).mono ?_; rintro e w3 ⟨rfl, hbt⟩))
          have c1 : w3.cell? ⟨b, i * 3, none⟩ = some (.int .i64 k) := by rw [hbt.cell (by exact hbl)]; exact a1
          have c2 : w3.cell? ⟨b, i * 3 + 1, none⟩ = some (.string ⟨x.toArray⟩) := by rw [hbt.cell (by exact hbl)]; exact a2
          have c3 : w3.cell? ⟨b, i * 3 + 2, none⟩ = some (.int .i64 a) := by rw [hbt.cell (by exact hbl)]; exact a3
          have hb3 : Below w2.heap.size w2 w3 := bt hbr (bdr hbt)
          have HB3 := Lib.hid hb3
          clear a1 a2 a3 hbt hb3 hbr
          rcases hkk with rfl | rfl | rfl | rfl
          · -- a name
            have hK : (1 : Nat) = 1 ∨ (1 : Nat) = 2 := by omega
            have hD : x.all Lex.isDig = false := F5.out hK
            have HD := Lib.hid hD; clear hD
            have hA : ∀ h : 0 < a, Lex.isWord (s[a - 1]'(by omega)) = false := fun h => F3.out hK h (by omega)
            have hE : ∀ h : a + q.length < s.length, Lex.isWord s[a + q.length] = false := fun h => F4.out hK h
            have HA := Lib.hid hA; clear hA
            have HE := Lib.hid hE; clear hE
            clear hK F2 F3 F4 F5
            have cA : ∀ h : 0 < a, ∀ W, Calls Tryd.prog 20 #[.int .u8 ((s[a - 1]'(by omega)).toNat)] W fun e w' => e = .returned (.bool false) ∧ W = w' := fun h W => by have := refWord_any (s[a - 1]'(by omega)) W; rw [HA.out h] at this; exact this
            have cE : ∀ h : a + q.length < s.length, ∀ W, Calls Tryd.prog 20 #[.int .u8 (s[a + q.length].toNat)] W fun e w' => e = .returned (.bool false) ∧ W = w' := fun h W => by have := refWord_any s[a + q.length] W; rw [HE.out h] at this; exact this
            have CA := Lib.hid cA; clear cA
            have CE := Lib.hid cE; clear cE
            have fin : ∀ W : World, Hid (W = W) := fun _ => rfl
            clear fin
            by_cases h0 : 0 < a
            all_goals by_cases hlt : a + q.length < s.length
            · have h0' : (0 : Int) < (a : Int) := by omega
              have h0'' : (1 : Int) ≤ (a : Int) := by omega
              have hlt' : (a : Int) + (q.length : Int) < (s.length : Int) := by omega
              go_wp2_with fail
              refine (CA.out h0 _).mono ?_
              rintro e w4 ⟨rfl, rfl⟩
              go_wp2_with fail
              refine (CE.out hlt _).mono ?_
              rintro e w4 ⟨rfl, rfl⟩
              go_wp2_with fail
              go_loopg [9, 10] x.length (fun g2 d kk wy => ∃ m : Nat, m + g2 = x.length ∧ d = .bool ((x.take m).all Lex.isDig) ∧ kk = .int .i64 m ∧ w3 = wy)
              case atStart => exact ⟨0, by omega, rfl, rfl, rfl⟩
              case round =>
                obtain ⟨m, hmg, rfl, rfl, rfl⟩ := hrel
                cases gk with
                | zero =>
                  have hmz : ¬ ((m : Int) < (x.length : Int)) := by omega
                  have hall : (x.take m).all Lex.isDig = false := by rw [List.take_of_length_le (by omega)]; exact HD.out
                  rw [hall]
                  clear hall
                  go_wp2
                  go_roundg g
                  case measure => omega
                  case rel => exact ⟨i + 1, by omega, by first | rfl | simp, HB3.out⟩
                | succ g2 =>
                  have hml : m < x.length := by omega
                  have hmz : (m : Int) < (x.length : Int) := by omega
                  have HNX : Hid ((x.take (m + 1)).all Lex.isDig = ((x.take m).all Lex.isDig && Lex.isDig x[m])) := by
                    show _ = _
                    rw [List.take_succ_eq_append_getElem hml, List.all_append]; simp
                  cases hd : (x.take m).all Lex.isDig
                  · rw [hd] at HNX
                    clear hd
                    go_wp2
                    go_roundg g2
                    case measure => omega
                    case rel => exact ⟨m + 1, by omega, by rw [HNX.out]; rfl, by first | rfl | simp, rfl⟩
                  · rw [hd] at HNX
                    clear hd
                    go_wp2_with (go_at_call 21; refine (refDigit_any _ _).mono ?_; rintro e w4 ⟨rfl, rfl⟩)
                    go_roundg g2
                    case measure => omega
                    case rel => exact ⟨m + 1, by omega, by rw [HNX.out]; first | rfl | simp, by first | rfl | simp, rfl⟩
            · have h0' : (0 : Int) < (a : Int) := by omega
              have h0'' : (1 : Int) ≤ (a : Int) := by omega
              have hlt' : ¬ (a : Int) + (q.length : Int) < (s.length : Int) := by omega
              go_wp2_with fail
              refine (CA.out h0 _).mono ?_
              rintro e w4 ⟨rfl, rfl⟩
              go_wp2_with fail
              go_loopg [9, 10] x.length (fun g2 d kk wy => ∃ m : Nat, m + g2 = x.length ∧ d = .bool ((x.take m).all Lex.isDig) ∧ kk = .int .i64 m ∧ w3 = wy)
              case atStart => exact ⟨0, by omega, rfl, rfl, rfl⟩
              case round =>
                obtain ⟨m, hmg, rfl, rfl, rfl⟩ := hrel
                cases gk with
                | zero =>
                  have hmz : ¬ ((m : Int) < (x.length : Int)) := by omega
                  have hall : (x.take m).all Lex.isDig = false := by rw [List.take_of_length_le (by omega)]; exact HD.out
                  rw [hall]
                  clear hall
                  go_wp2
                  go_roundg g
                  case measure => omega
                  case rel => exact ⟨i + 1, by omega, by first | rfl | simp, HB3.out⟩
                | succ g2 =>
                  have hml : m < x.length := by omega
                  have hmz : (m : Int) < (x.length : Int) := by omega
                  have HNX : Hid ((x.take (m + 1)).all Lex.isDig = ((x.take m).all Lex.isDig && Lex.isDig x[m])) := by
                    show _ = _
                    rw [List.take_succ_eq_append_getElem hml, List.all_append]; simp
                  cases hd : (x.take m).all Lex.isDig
                  · rw [hd] at HNX
                    clear hd
                    go_wp2
                    go_roundg g2
                    case measure => omega
                    case rel => exact ⟨m + 1, by omega, by rw [HNX.out]; rfl, by first | rfl | simp, rfl⟩
                  · rw [hd] at HNX
                    clear hd
                    go_wp2_with (go_at_call 21; refine (refDigit_any _ _).mono ?_; rintro e w4 ⟨rfl, rfl⟩)
                    go_roundg g2
                    case measure => omega
                    case rel => exact ⟨m + 1, by omega, by rw [HNX.out]; first | rfl | simp, by first | rfl | simp, rfl⟩
            · have h0' : ¬ (0 : Int) < (a : Int) := by omega
              have hlt' : (a : Int) + (q.length : Int) < (s.length : Int) := by omega
              go_wp2_with fail
              refine (CE.out hlt _).mono ?_
              rintro e w4 ⟨rfl, rfl⟩
              go_wp2_with fail
              go_loopg [9, 10] x.length (fun g2 d kk wy => ∃ m : Nat, m + g2 = x.length ∧ d = .bool ((x.take m).all Lex.isDig) ∧ kk = .int .i64 m ∧ w3 = wy)
              case atStart => exact ⟨0, by omega, rfl, rfl, rfl⟩
              case round =>
                obtain ⟨m, hmg, rfl, rfl, rfl⟩ := hrel
                cases gk with
                | zero =>
                  have hmz : ¬ ((m : Int) < (x.length : Int)) := by omega
                  have hall : (x.take m).all Lex.isDig = false := by rw [List.take_of_length_le (by omega)]; exact HD.out
                  rw [hall]
                  clear hall
                  go_wp2
                  go_roundg g
                  case measure => omega
                  case rel => exact ⟨i + 1, by omega, by first | rfl | simp, HB3.out⟩
                | succ g2 =>
                  have hml : m < x.length := by omega
                  have hmz : (m : Int) < (x.length : Int) := by omega
                  have HNX : Hid ((x.take (m + 1)).all Lex.isDig = ((x.take m).all Lex.isDig && Lex.isDig x[m])) := by
                    show _ = _
                    rw [List.take_succ_eq_append_getElem hml, List.all_append]; simp
                  cases hd : (x.take m).all Lex.isDig
                  · rw [hd] at HNX
                    clear hd
                    go_wp2
                    go_roundg g2
                    case measure => omega
                    case rel => exact ⟨m + 1, by omega, by rw [HNX.out]; rfl, by first | rfl | simp, rfl⟩
                  · rw [hd] at HNX
                    clear hd
                    go_wp2_with (go_at_call 21; refine (refDigit_any _ _).mono ?_; rintro e w4 ⟨rfl, rfl⟩)
                    go_roundg g2
                    case measure => omega
                    case rel => exact ⟨m + 1, by omega, by rw [HNX.out]; first | rfl | simp, by first | rfl | simp, rfl⟩
            · have h0' : ¬ (0 : Int) < (a : Int) := by omega
              have hlt' : ¬ (a : Int) + (q.length : Int) < (s.length : Int) := by omega
              go_wp2_with fail
              go_loopg [9, 10] x.length (fun g2 d kk wy => ∃ m : Nat, m + g2 = x.length ∧ d = .bool ((x.take m).all Lex.isDig) ∧ kk = .int .i64 m ∧ w3 = wy)
              case atStart => exact ⟨0, by omega, rfl, rfl, rfl⟩
              case round =>
                obtain ⟨m, hmg, rfl, rfl, rfl⟩ := hrel
                cases gk with
                | zero =>
                  have hmz : ¬ ((m : Int) < (x.length : Int)) := by omega
                  have hall : (x.take m).all Lex.isDig = false := by rw [List.take_of_length_le (by omega)]; exact HD.out
                  rw [hall]
                  clear hall
                  go_wp2
                  go_roundg g
                  case measure => omega
                  case rel => exact ⟨i + 1, by omega, by first | rfl | simp, HB3.out⟩
                | succ g2 =>
                  have hml : m < x.length := by omega
                  have hmz : (m : Int) < (x.length : Int) := by omega
                  have HNX : Hid ((x.take (m + 1)).all Lex.isDig = ((x.take m).all Lex.isDig && Lex.isDig x[m])) := by
                    show _ = _
                    rw [List.take_succ_eq_append_getElem hml, List.all_append]; simp
                  cases hd : (x.take m).all Lex.isDig
                  · rw [hd] at HNX
                    clear hd
                    go_wp2
                    go_roundg g2
                    case measure => omega
                    case rel => exact ⟨m + 1, by omega, by rw [HNX.out]; rfl, by first | rfl | simp, rfl⟩
                  · rw [hd] at HNX
                    clear hd
                    go_wp2_with (go_at_call 21; refine (refDigit_any _ _).mono ?_; rintro e w4 ⟨rfl, rfl⟩)
                    go_roundg g2
                    case measure => omega
                    case rel => exact ⟨m + 1, by omega, by rw [HNX.out]; first | rfl | simp, by first | rfl | simp, rfl⟩
          · -- a number
            have hK : (2 : Nat) = 1 ∨ (2 : Nat) = 2 := by omega
            have hD : x.all Lex.isDig = true := F5.out hK
            have HD := Lib.hid hD; clear hD
            have hA : ∀ h : 0 < a, Lex.isWord (s[a - 1]'(by omega)) = false := fun h => F3.out hK h (by omega)
            have hE : ∀ h : a + q.length < s.length, Lex.isWord s[a + q.length] = false := fun h => F4.out hK h
            have HA := Lib.hid hA; clear hA
            have HE := Lib.hid hE; clear hE
            clear hK F2 F3 F4 F5
            have cA : ∀ h : 0 < a, ∀ W, Calls Tryd.prog 20 #[.int .u8 ((s[a - 1]'(by omega)).toNat)] W fun e w' => e = .returned (.bool false) ∧ W = w' := fun h W => by have := refWord_any (s[a - 1]'(by omega)) W; rw [HA.out h] at this; exact this
            have cE : ∀ h : a + q.length < s.length, ∀ W, Calls Tryd.prog 20 #[.int .u8 (s[a + q.length].toNat)] W fun e w' => e = .returned (.bool false) ∧ W = w' := fun h W => by have := refWord_any s[a + q.length] W; rw [HE.out h] at this; exact this
            have CA := Lib.hid cA; clear cA
            have CE := Lib.hid cE; clear cE
            have fin : ∀ W : World, Hid (W = W) := fun _ => rfl
            clear fin
            by_cases h0 : 0 < a
            all_goals by_cases hlt : a + q.length < s.length
            · have h0' : (0 : Int) < (a : Int) := by omega
              have h0'' : (1 : Int) ≤ (a : Int) := by omega
              have hlt' : (a : Int) + (q.length : Int) < (s.length : Int) := by omega
              go_wp2_with fail
              refine (CA.out h0 _).mono ?_
              rintro e w4 ⟨rfl, rfl⟩
              go_wp2_with fail
              refine (CE.out hlt _).mono ?_
              rintro e w4 ⟨rfl, rfl⟩
              go_wp2_with fail
              go_loopg [9, 10] x.length (fun g2 d kk wy => ∃ m : Nat, m + g2 = x.length ∧ d = .bool ((x.take m).all Lex.isDig) ∧ kk = .int .i64 m ∧ w3 = wy)
              case atStart => exact ⟨0, by omega, rfl, rfl, rfl⟩
              case round =>
                obtain ⟨m, hmg, rfl, rfl, rfl⟩ := hrel
                cases gk with
                | zero =>
                  have hmz : ¬ ((m : Int) < (x.length : Int)) := by omega
                  have hall : (x.take m).all Lex.isDig = true := by rw [List.take_of_length_le (by omega)]; exact HD.out
                  rw [hall]
                  clear hall
                  go_wp2
                  go_roundg g
                  case measure => omega
                  case rel => exact ⟨i + 1, by omega, by first | rfl | simp, HB3.out⟩
                | succ g2 =>
                  have hml : m < x.length := by omega
                  have hmz : (m : Int) < (x.length : Int) := by omega
                  have HNX : Hid ((x.take (m + 1)).all Lex.isDig = ((x.take m).all Lex.isDig && Lex.isDig x[m])) := by
                    show _ = _
                    rw [List.take_succ_eq_append_getElem hml, List.all_append]; simp
                  cases hd : (x.take m).all Lex.isDig
                  · rw [hd] at HNX
                    clear hd
                    go_wp2
                    go_roundg g2
                    case measure => omega
                    case rel => exact ⟨m + 1, by omega, by rw [HNX.out]; rfl, by first | rfl | simp, rfl⟩
                  · rw [hd] at HNX
                    clear hd
                    go_wp2_with (go_at_call 21; refine (refDigit_any _ _).mono ?_; rintro e w4 ⟨rfl, rfl⟩)
                    go_roundg g2
                    case measure => omega
                    case rel => exact ⟨m + 1, by omega, by rw [HNX.out]; first | rfl | simp, by first | rfl | simp, rfl⟩
            · have h0' : (0 : Int) < (a : Int) := by omega
              have h0'' : (1 : Int) ≤ (a : Int) := by omega
              have hlt' : ¬ (a : Int) + (q.length : Int) < (s.length : Int) := by omega
              go_wp2_with fail
              refine (CA.out h0 _).mono ?_
              rintro e w4 ⟨rfl, rfl⟩
              go_wp2_with fail
              go_loopg [9, 10] x.length (fun g2 d kk wy => ∃ m : Nat, m + g2 = x.length ∧ d = .bool ((x.take m).all Lex.isDig) ∧ kk = .int .i64 m ∧ w3 = wy)
              case atStart => exact ⟨0, by omega, rfl, rfl, rfl⟩
              case round =>
                obtain ⟨m, hmg, rfl, rfl, rfl⟩ := hrel
                cases gk with
                | zero =>
                  have hmz : ¬ ((m : Int) < (x.length : Int)) := by omega
                  have hall : (x.take m).all Lex.isDig = true := by rw [List.take_of_length_le (by omega)]; exact HD.out
                  rw [hall]
                  clear hall
                  go_wp2
                  go_roundg g
                  case measure => omega
                  case rel => exact ⟨i + 1, by omega, by first | rfl | simp, HB3.out⟩
                | succ g2 =>
                  have hml : m < x.length := by omega
                  have hmz : (m : Int) < (x.length : Int) := by omega
                  have HNX : Hid ((x.take (m + 1)).all Lex.isDig = ((x.take m).all Lex.isDig && Lex.isDig x[m])) := by
                    show _ = _
                    rw [List.take_succ_eq_append_getElem hml, List.all_append]; simp
                  cases hd : (x.take m).all Lex.isDig
                  · rw [hd] at HNX
                    clear hd
                    go_wp2
                    go_roundg g2
                    case measure => omega
                    case rel => exact ⟨m + 1, by omega, by rw [HNX.out]; rfl, by first | rfl | simp, rfl⟩
                  · rw [hd] at HNX
                    clear hd
                    go_wp2_with (go_at_call 21; refine (refDigit_any _ _).mono ?_; rintro e w4 ⟨rfl, rfl⟩)
                    go_roundg g2
                    case measure => omega
                    case rel => exact ⟨m + 1, by omega, by rw [HNX.out]; first | rfl | simp, by first | rfl | simp, rfl⟩
            · have h0' : ¬ (0 : Int) < (a : Int) := by omega
              have hlt' : (a : Int) + (q.length : Int) < (s.length : Int) := by omega
              go_wp2_with fail
              refine (CE.out hlt _).mono ?_
              rintro e w4 ⟨rfl, rfl⟩
              go_wp2_with fail
              go_loopg [9, 10] x.length (fun g2 d kk wy => ∃ m : Nat, m + g2 = x.length ∧ d = .bool ((x.take m).all Lex.isDig) ∧ kk = .int .i64 m ∧ w3 = wy)
              case atStart => exact ⟨0, by omega, rfl, rfl, rfl⟩
              case round =>
                obtain ⟨m, hmg, rfl, rfl, rfl⟩ := hrel
                cases gk with
                | zero =>
                  have hmz : ¬ ((m : Int) < (x.length : Int)) := by omega
                  have hall : (x.take m).all Lex.isDig = true := by rw [List.take_of_length_le (by omega)]; exact HD.out
                  rw [hall]
                  clear hall
                  go_wp2
                  go_roundg g
                  case measure => omega
                  case rel => exact ⟨i + 1, by omega, by first | rfl | simp, HB3.out⟩
                | succ g2 =>
                  have hml : m < x.length := by omega
                  have hmz : (m : Int) < (x.length : Int) := by omega
                  have HNX : Hid ((x.take (m + 1)).all Lex.isDig = ((x.take m).all Lex.isDig && Lex.isDig x[m])) := by
                    show _ = _
                    rw [List.take_succ_eq_append_getElem hml, List.all_append]; simp
                  cases hd : (x.take m).all Lex.isDig
                  · rw [hd] at HNX
                    clear hd
                    go_wp2
                    go_roundg g2
                    case measure => omega
                    case rel => exact ⟨m + 1, by omega, by rw [HNX.out]; rfl, by first | rfl | simp, rfl⟩
                  · rw [hd] at HNX
                    clear hd
                    go_wp2_with (go_at_call 21; refine (refDigit_any _ _).mono ?_; rintro e w4 ⟨rfl, rfl⟩)
                    go_roundg g2
                    case measure => omega
                    case rel => exact ⟨m + 1, by omega, by rw [HNX.out]; first | rfl | simp, by first | rfl | simp, rfl⟩
            · have h0' : ¬ (0 : Int) < (a : Int) := by omega
              have hlt' : ¬ (a : Int) + (q.length : Int) < (s.length : Int) := by omega
              go_wp2_with fail
              go_loopg [9, 10] x.length (fun g2 d kk wy => ∃ m : Nat, m + g2 = x.length ∧ d = .bool ((x.take m).all Lex.isDig) ∧ kk = .int .i64 m ∧ w3 = wy)
              case atStart => exact ⟨0, by omega, rfl, rfl, rfl⟩
              case round =>
                obtain ⟨m, hmg, rfl, rfl, rfl⟩ := hrel
                cases gk with
                | zero =>
                  have hmz : ¬ ((m : Int) < (x.length : Int)) := by omega
                  have hall : (x.take m).all Lex.isDig = true := by rw [List.take_of_length_le (by omega)]; exact HD.out
                  rw [hall]
                  clear hall
                  go_wp2
                  go_roundg g
                  case measure => omega
                  case rel => exact ⟨i + 1, by omega, by first | rfl | simp, HB3.out⟩
                | succ g2 =>
                  have hml : m < x.length := by omega
                  have hmz : (m : Int) < (x.length : Int) := by omega
                  have HNX : Hid ((x.take (m + 1)).all Lex.isDig = ((x.take m).all Lex.isDig && Lex.isDig x[m])) := by
                    show _ = _
                    rw [List.take_succ_eq_append_getElem hml, List.all_append]; simp
                  cases hd : (x.take m).all Lex.isDig
                  · rw [hd] at HNX
                    clear hd
                    go_wp2
                    go_roundg g2
                    case measure => omega
                    case rel => exact ⟨m + 1, by omega, by rw [HNX.out]; rfl, by first | rfl | simp, rfl⟩
                  · rw [hd] at HNX
                    clear hd
                    go_wp2_with (go_at_call 21; refine (refDigit_any _ _).mono ?_; rintro e w4 ⟨rfl, rfl⟩)
                    go_roundg g2
                    case measure => omega
                    case rel => exact ⟨m + 1, by omega, by rw [HNX.out]; first | rfl | simp, by first | rfl | simp, rfl⟩
          · -- a symbol
            by_cases hx : x = [45]
            · subst hx
              by_cases hlt : a + q.length < s.length
              · have hlt' : (a : Int) + (q.length : Int) < (s.length : Int) := by omega
                have hne : ((s[a + q.length].toNat : Int) == 62) = false := by have := F2.out rfl rfl hlt; simp; omega
                go_wp2
                go_roundg g
                case measure => omega
                case rel => exact ⟨i + 1, by omega, by first | rfl | simp, HB3.out⟩
              · have hlt' : ¬ (a : Int) + (q.length : Int) < (s.length : Int) := by omega
                go_wp2
                go_roundg g
                case measure => omega
                case rel => exact ⟨i + 1, by omega, by first | rfl | simp, HB3.out⟩
            · go_wp2
              go_roundg g
              case measure => omega
              case rel => exact ⟨i + 1, by omega, by first | rfl | simp, HB3.out⟩
          · -- a text
            go_wp2
            go_roundg g
            case measure => omega
            case rel => exact ⟨i + 1, by omega, by first | rfl | simp, HB3.out⟩
    | error y =>
      obtain ⟨er, at_⟩ := y
      have HF := Lib.hid hF
      have he := (Lex.lexF_err hF).1
      clear hF
      have e1 : ((er : Int) != 0) = true := by simp; omega
      go_enter Tryd.func6, Tryd.ntmps6
      go_wp2_with fail
      refine (head_any _ HS.out).mono ?_
      rintro e w1 ⟨rfl, hb1⟩
      have HS1 := Lib.hid (HS.out.below hb1 (sym_lt HS.out))
      go_wp2_with fail
      refine (small_any s _ HM.out).mono ?_
      rintro e w1 ⟨rfl, rfl⟩
      go_wp2_with fail
      refine (lex_err s _ at_ _ (by omega) HS1.out HF.out).mono ?_
      rintro e w2 ⟨rfl, hb2⟩
      go_wp2
      go_ret
      exact ⟨rfl, bt hb1 hb2⟩
  · have b1 : decide (s.length ≤ 8100) = false := by simp; omega
    go_enter Tryd.func6, Tryd.ntmps6
    go_wp2_with fail
    refine (head_any _ HS.out).mono ?_
    rintro e w1 ⟨rfl, hb1⟩
    go_wp2_with fail
    refine (small_any s _ HM.out).mono ?_
    rintro e w1 ⟨rfl, rfl⟩
    go_wp2
    go_ret
    exact ⟨rfl, hb1⟩
end Go.Proofs.YtbeodifgekhhpaaDoor
