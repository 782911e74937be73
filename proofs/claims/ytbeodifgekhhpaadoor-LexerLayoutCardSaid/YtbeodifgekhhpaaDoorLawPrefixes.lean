/-
  LexerPrefixes returns true, for every text and number.
-/
import Derived.Test.YtbeodifgekhhpaaDoorLexRef
import Derived.Test.YtbeodifgekhhpaaDoorLexScan
namespace Go.Proofs.YtbeodifgekhhpaaDoor
open Go.RowKit
attribute [local go_sem] ba_get ba_extract ba_append

theorem srcF_srcLen (t : Lex.Tok) : (srcF t.kind t.text).length = Lex.srcLen t := by
  unfold srcF Lex.srcLen; split <;> simp
theorem tok_kind {s : List UInt8} {ts : List Lex.Tok} (h : Lex.lexF s = .ok ts) (i : Nat) (hi : i < ts.length) : ts[i].kind ≤ 100 ∧ ts[i].text.length ≤ 8000 ∧ ts[i].at_ ≤ 8000 := by
  obtain ⟨hl, hs, h3⟩ := Lex.lexF_ok h
  have hmono := Lex.scan_mono s 0
  rw [hs] at hmono
  have := (hmono i _ (List.getElem?_eq_getElem hi)).1
  have hk := Lex.scan_kind s 0 ts[i] (by rw [hs]; exact List.getElem_mem hi)
  unfold Lex.srcLen at this
  split at this <;> exact ⟨by omega, by omega, by omega⟩

set_option maxHeartbeats 1000000 in
set_option maxRecDepth 100000 in
theorem prefixes_walk (s : List UInt8) (x : Nat) (w : World) (hs : s.length ≤ maxLen) (hx : x < 65536) (hS : Syms w) :
    Calls Tryd.prog 9 #[.string ⟨s.toArray⟩, .int .u16 x] w fun e w' => e = .returned (.bool true) ∧ Below w.heap.size w w' := by
  have HM := Lib.hid hs
  unfold maxLen at hs
  have HS := Lib.hid hS; clear hS
  by_cases h1 : s.length ≤ 8100
  · have b1 : decide (s.length ≤ 8100) = true := by simp; omega
    cases hF : Lex.lexF s with
    | ok ts =>
      have HF := Lib.hid hF; clear hF
      have h3 := (Lex.lexF_ok HF.out).2.2
      have h8 := (Lex.lexF_ok HF.out).1
      by_cases hts : ts.length = 0
      · have HT := Lib.hid hts; clear hts
        have hz : ((ts.length : Int) == 0) = true := by rw [HT.out]; rfl
        go_enter Tryd.func9, Tryd.ntmps9
        go_wp2_with fail
        refine (head_any _ HS.out).mono ?_
        rintro e w1 ⟨rfl, hb1⟩
        have HS1 := Lib.hid (HS.out.below hb1 (sym_lt HS.out))
        go_wp2_with fail
        refine (small_any s _ HM.out).mono ?_
        rintro e w1 ⟨rfl, rfl⟩
        go_wp2_with fail
        refine (lex_ok s ts _ (by omega) HS1.out HF.out).mono ?_
        rintro e w2 ⟨hb2, A, c, rfl, hc1, ht1⟩
        go_wp2
        go_ret
        exact ⟨rfl, bt hb1 hb2⟩
      · have hz : ((ts.length : Int) == 0) = false := by rw [beq_eq_false_iff_ne]; omega
        have hpos : 0 < (ts.length : Int) := by have := Nat.pos_of_ne_zero hts; omega
        obtain ⟨i, hi⟩ : ∃ i, i = x % ts.length := ⟨_, rfl⟩
        have hil : i < ts.length := by rw [hi]; exact Nat.mod_lt _ (Nat.pos_of_ne_zero hts)
        have HI : Hid ((x : Int) % (ts.length : Int) = (i : Int)) := by rw [hi]; exact (Int.natCast_emod x ts.length).symm
        clear hi
        obtain ⟨hk1, hk2, hk3⟩ := tok_kind HF.out i hil
        obtain ⟨hp1, hp2⟩ := Lex.prefixes HF.out i hil
        have hsl := srcF_srcLen ts[i]
        obtain ⟨t, ht⟩ : ∃ t, ts[i] = t := ⟨_, rfl⟩
        rw [ht] at hk1 hk2 hk3 hp1 hp2 hsl
        have HP2 := Lib.hid hp2; clear hp2
        have HSL := Lib.hid hsl; clear hsl
        have HTT := Lib.hid ht; clear ht
        obtain ⟨q, hq⟩ : ∃ q, q = srcF t.kind t.text := ⟨_, rfl⟩
        have cT := fun W => source_any t.kind t.text (t.at_ : Int) W hk1 (by omega)
        rw [← HSL.out, ← hq] at hp1
        rw [← hq] at cT
        have HP3 : Hid (Lex.lexF (s.take (t.at_ + q.length)) = .ok (ts.take (i + 1))) := by have := HP2.out; rw [← HSL.out, ← hq] at this; exact this
        have CT := Lib.hid cT; clear cT
        clear hq HP2 HSL
        have hp1' : (t.at_ : Int) + (q.length : Int) ≤ (s.length : Int) := by omega
        have hp0 : (0 : Int) ≤ (t.at_ : Int) + (q.length : Int) := by omega
        go_enter Tryd.func9, Tryd.ntmps9
        go_wp2_with fail
        refine (head_any _ HS.out).mono ?_
        rintro e w1 ⟨rfl, hb1⟩
        have HS1 := Lib.hid (HS.out.below hb1 (sym_lt HS.out))
        go_wp2_with fail
        refine (small_any s _ HM.out).mono ?_
        rintro e w1 ⟨rfl, rfl⟩
        go_wp2_with fail
        refine (lex_ok s ts _ (by omega) HS1.out HF.out).mono ?_
        rintro e w2 ⟨hb2, A, c, rfl, hc1, ht1⟩
        have HS2 := Lib.hid (HS1.out.below hb2 (sym_lt HS1.out))
        have HT1 := Lib.hid ht1; clear ht1
        obtain ⟨b, rfl, _, hbl⟩ := HT1.out.addr (by omega)
        obtain ⟨a1, a2, a3⟩ := HT1.out.cells i hil
        rw [HTT.out] at a1 a2 a3
        go_wp2_with fail
        rw [HI.out]
        have hi0 : (0 : Int) ≤ (i : Int) := Int.natCast_nonneg _
        have hi1 : (i : Int) < (ts.length : Int) := by omega
        have hi2 : (i : Int) + 1 ≤ (ts.length : Int) := by omega
        have hi3 : (ts.length : Int) ≤ (c : Int) := by omega
        go_region_held3 (fun w' => w'.cell? ⟨b, i * 3, none⟩ = some (.int .i64 t.kind) ∧ w'.cell? ⟨b, i * 3 + 1, none⟩ = some (.string ⟨t.text.toArray⟩) ∧ w'.cell? ⟨b, i * 3 + 2, none⟩ = some (.int .i64 t.at_))
          (first | go_keep | (refine ⟨?_, ?_, ?_⟩ <;> (rw [hbt.cell (by exact hbl)]; first | exact a1 | exact a2 | exact a3)))
          (first
            | (go_at_call 15; refine (CT.out _).mono ?_; rintro e w3 ⟨rfl, hbt⟩))
        have HS3 := Lib.hid (HS2.out.below (bdr hbt) (sym_lt HS2.out))
        obtain ⟨us, hus⟩ : ∃ us, us = ts.take (i + 1) := ⟨_, rfl⟩
        have hul : us.length = i + 1 := by rw [hus]; simp; omega
        have HT3 : Hid (Toks w3 w1.heap.size (some ⟨b, 0, none⟩) us) := by rw [hus]; exact (HT1.out.below (bdr hbt)).take _
        have HP4 : Hid (Lex.lexF (s.take (t.at_ + q.length)) = .ok us) := by rw [hus]; exact HP3.out
        have HUL := Lib.hid hul
        clear hul hus HP3
        go_wp2_with fail
        refine (lex_ok _ us _ (by simp; omega) HS3.out HP4.out).mono ?_
        rintro e w4 ⟨hb4, A', c', rfl, hc4, ht4⟩
        rw [HUL.out]
        have HT4 := Lib.hid ht4; clear ht4
        clear hc4
        go_wp2_with fail
        refine (same_at us (i + 1) _ _ _ _ _ _ _ HUL.out (by omega) HT4.out (HT3.out.below hb4)).mono ?_
        rintro e w5 ⟨rfl, hb5⟩
        go_wp2
        go_ret
        exact ⟨rfl, bt (bt (bt (bt hb1 hb2) (bdr hbt)) hb4) hb5⟩
    | error y =>
      obtain ⟨er, at_⟩ := y
      have HF := Lib.hid hF
      have he := (Lex.lexF_err hF).1
      clear hF
      have e1 : ((er : Int) != 0) = true := by simp; omega
      go_enter Tryd.func9, Tryd.ntmps9
      go_wp2_with fail
      refine (head_any _ HS.out).mono ?_
      rintro e w1 ⟨rfl, hb1⟩
      have HS1 := Lib.hid (HS.out.below hb1 (sym_lt HS.out))
      go_wp2_with fail
      refine (small_any s _ HM.out).mono ?_
      rintro e w1 ⟨rfl, rfl⟩
      go_wp2_with fail
      refine (lex_err s _ at_ _ (by omega) HS1.out HF.out).mono ?_
      rintro e w2 ⟨rfl, hb2⟩
      go_wp2
      go_ret
      exact ⟨rfl, bt hb1 hb2⟩
  · have b1 : decide (s.length ≤ 8100) = false := by simp; omega
    go_enter Tryd.func9, Tryd.ntmps9
    go_wp2_with fail
    refine (head_any _ HS.out).mono ?_
    rintro e w1 ⟨rfl, hb1⟩
    go_wp2_with fail
    refine (small_any s _ HM.out).mono ?_
    rintro e w1 ⟨rfl, rfl⟩
    go_wp2
    go_ret
    exact ⟨rfl, hb1⟩
end Go.Proofs.YtbeodifgekhhpaaDoor
