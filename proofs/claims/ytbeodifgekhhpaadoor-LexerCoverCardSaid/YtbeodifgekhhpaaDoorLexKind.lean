/-
  The walks over the reference's functions on pieces: Symbols, symbol, quoted, run, Kind; and the law's own gap.
-/
import Derived.Test.YtbeodifgekhhpaaDoorLexRef
import Derived.Test.YtbeodifgekhhpaaDoorLexRefPlain
namespace Go.Proofs.YtbeodifgekhhpaaDoor
open Go.RowKit
attribute [local go_sem] ba_get ba_extract ba_append

def refSymCells : Array Value := (Lex.refSymbols.map fun s => Value.string ⟨s.toArray⟩).toArray
set_option maxHeartbeats 400000 in
theorem symbols_any (w : World) :
    Calls Tryd.prog 36 #[] w fun e w' => e = .returned (.slice (some ⟨w.heap.size, 0, none⟩) 13 13) ∧ w' = w.alloc (.cells refSymCells 9) := by
  go_enter Tryd.func36, Tryd.ntmps36
  go_wp2
  go_ret
  exact ⟨rfl, rfl⟩
theorem refSym_cell (w : World) (i : Nat) (hi : i < Lex.refSymbols.length) : (w.alloc (.cells refSymCells 9)).cell? ⟨w.heap.size, i, none⟩ = some (.string ⟨(Lex.refSymbols[i]).toArray⟩) := by
  rw [cell_of_row _ _ _ _ _ _ (heap_alloc_new w _)]
  simp [refSymCells, hi]
theorem any_drop (p : List UInt8) (i : Nat) (hi : i < Lex.refSymbols.length) : (Lex.refSymbols.drop i).any (· == p) = (Lex.refSymbols[i] == p || (Lex.refSymbols.drop (i + 1)).any (· == p)) := by
  rw [List.drop_eq_getElem_cons hi, List.any_cons]
set_option maxHeartbeats 400000 in
theorem symbol_any (p : List UInt8) (w : World) (hp : p.length ≤ 100000) :
    Calls Tryd.prog 30 #[.string ⟨p.toArray⟩] w fun e w' => e = .returned (.bool (Lex.refSym p)) ∧ Below w.heap.size w w' := by
  go_enter Tryd.func30, Tryd.ntmps30
  go_wp2_with fail
  refine (symbols_any w).mono ?_
  rintro e w1 ⟨rfl, rfl⟩
  go_wp2_with fail
  go_loopg [4] 13 (fun g i wr => ∃ k : Nat, k + g = 13 ∧ i = .int .i64 k ∧ Hid (Lex.refSym p = (Lex.refSymbols.drop k).any (· == p)) ∧ w.alloc (.cells refSymCells 9) = wr)
  case atStart => exact ⟨0, rfl, rfl, rfl, rfl⟩
  case round =>
    obtain ⟨k, hk, rfl, H, rfl⟩ := hrel
    cases gk with
    | zero =>
      have hkz : ¬ ((k : Int) < 13) := by omega
      go_wp2
      go_ret
      refine ⟨ret_bool ?_, (Below.refl _ _).alloc (Nat.le_refl _) _⟩
      obtain rfl : k = 13 := by omega
      rw [H.out]; rfl
    | succ g =>
      have hkl : k < Lex.refSymbols.length := by show k < 13; omega
      have hkz : (k : Int) < 13 := by omega
      have hc := refSym_cell w k hkl
      have HA := Lib.hid (any_drop p k hkl)
      obtain ⟨s, hs⟩ : ∃ s, Lex.refSymbols[k] = s := ⟨_, rfl⟩
      have HS := Lib.hid hs
      rw [hs] at hc
      clear hs
      by_cases he : s = p
      · subst he
        go_wp2
        go_ret
        refine ⟨ret_bool ?_, (Below.refl _ _).alloc (Nat.le_refl _) _⟩
        rw [H.out, HA.out, HS.out]; simp
      · have hne : (s == p) = false := by simpa using he
        go_wp2
        go_roundg g
        case measure => omega
        case rel =>
          refine ⟨k + 1, by omega, by first | rfl | simp, ?_, rfl⟩
          have := H.out
          rw [HA.out, HS.out] at this
          rw [hne, Bool.false_or] at this
          exact this

theorem mid_step (p : List UInt8) (k : Nat) (h : k < p.length - 1) : ((p.drop k).take (p.length - 1 - k)).all Lex.midOk = (Lex.midOk (p[k]'(by omega)) && ((p.drop (k + 1)).take (p.length - 1 - (k + 1))).all Lex.midOk) := by
  rw [List.drop_eq_getElem_cons (by omega), show p.length - 1 - k = (p.length - 1 - (k + 1)) + 1 by omega, List.take_succ_cons, List.all_cons]
set_option maxHeartbeats 1000000 in
theorem quoted_any (p : List UInt8) (w : World) (hp : p.length ≤ 100000) :
    Calls Tryd.prog 31 #[.string ⟨p.toArray⟩] w fun e w' => e = .returned (.bool (Lex.refQuoted p)) ∧ w = w' := by
  by_cases h2 : p.length < 2
  · have h2' : (p.length : Int) < 2 := by omega
    go_enter Tryd.func31, Tryd.ntmps31
    go_wp2
    go_ret
    refine ⟨ret_bool ?_, rfl⟩
    have : decide (2 ≤ p.length) = false := by simp; omega
    simp [Lex.refQuoted, this]
  · have b2 : decide ((p.length : Int) < 2) = false := by simp; omega
    by_cases h3 : 202 < p.length
    · have h3' : 202 < (p.length : Int) := by omega
      go_enter Tryd.func31, Tryd.ntmps31
      go_wp2
      go_ret
      refine ⟨ret_bool ?_, rfl⟩
      have : decide (p.length ≤ 202) = false := by simp; omega
      simp [Lex.refQuoted, this]
    · have b3 : decide (202 < (p.length : Int)) = false := by simp; omega
      have hl0 : 0 < p.length := by omega
      have hl1 : p.length - 1 < p.length := by omega
      have hl1' : (0 : Int) ≤ (p.length : Int) - 1 := by omega
      by_cases h4 : p[0].toNat = 34
      · have b4 : ((p[0].toNat : Int) != 34) = false := by simp; omega
        by_cases h5 : p[p.length - 1].toNat = 34
        · have b5 : ((p[p.length - 1].toNat : Int) != 34) = false := by simp; omega
          have HQ : Hid (Lex.refQuoted p = ((p.drop 1).take (p.length - 1 - 1)).all Lex.midOk) := by
            show _ = _
            have a1 : decide (2 ≤ p.length) = true := by simp; omega
            have a2 : decide (p.length ≤ 202) = true := by simp; omega
            unfold Lex.refQuoted
            rw [a1, a2, List.getElem?_eq_getElem hl0, List.getElem?_eq_getElem hl1, Nat.sub_sub]
            simp [h4, h5]
          clear h4 h5
          go_enter Tryd.func31, Tryd.ntmps31
          go_wp2
          go_loop [3] (fun i => ∃ k : Nat, 1 ≤ k ∧ k ≤ p.length - 1 ∧ i = .int .i64 k ∧ Hid (Lex.refQuoted p = ((p.drop k).take (p.length - 1 - k)).all Lex.midOk)) (fun i => p.length - (intOf i).toNat)
          case atStart => exact ⟨1, Nat.le_refl _, by omega, rfl, HQ⟩
          case round =>
            clear HQ
            obtain ⟨k, hk1, hk2, rfl, H⟩ := hrel
            by_cases hlt : k < p.length - 1
            · have hlt' : (k : Int) < (p.length : Int) - 1 := by omega
              have hkl : k < p.length := by omega
              have HM := Lib.hid (mid_step p k hlt)
              by_cases hm : 32 ≤ p[k].toNat ∧ p[k].toNat ≤ 126 ∧ p[k].toNat ≠ 34
              · have m1 : ¬ (p[k].toNat : Int) < 32 := by omega
                have m2 : ¬ 126 < (p[k].toNat : Int) := by omega
                have m3 : ((p[k].toNat : Int) == 34) = false := by simp; omega
                have hmo : Lex.midOk p[k] = true := by simp [Lex.midOk, hm]
                have HMO := Lib.hid hmo
                clear hmo hm
                go_wp2
                go_round
                case rel => exact ⟨k + 1, by omega, by omega, by go_num, by have := H.out; rw [HM.out, HMO.out, Bool.true_and] at this; exact this⟩
                case measure => simp [intOf]; omega
              · have hmo : Lex.midOk p[k] = false := by
                  rw [Bool.eq_false_iff]; intro hh; simp [Lex.midOk] at hh; exact hm ⟨hh.1.1, hh.1.2, hh.2⟩
                have HMO := Lib.hid hmo
                clear hmo
                by_cases m1 : p[k].toNat < 32
                · have m1' : (p[k].toNat : Int) < 32 := by omega
                  go_wp2
                  go_ret
                  exact ⟨ret_bool (by rw [H.out, HM.out, HMO.out]; rfl), rfl⟩
                · have m1' : ¬ (p[k].toNat : Int) < 32 := by omega
                  by_cases m2 : 126 < p[k].toNat
                  · have m2' : 126 < (p[k].toNat : Int) := by omega
                    go_wp2
                    go_ret
                    exact ⟨ret_bool (by rw [H.out, HM.out, HMO.out]; rfl), rfl⟩
                  · have m2' : ¬ 126 < (p[k].toNat : Int) := by omega
                    have m3 : ((p[k].toNat : Int) == 34) = true := by simp; omega
                    go_wp2
                    go_ret
                    exact ⟨ret_bool (by rw [H.out, HM.out, HMO.out]; rfl), rfl⟩
            · have hlt' : ¬ (k : Int) < (p.length : Int) - 1 := by omega
              go_wp2
              go_ret
              refine ⟨ret_bool ?_, rfl⟩
              rw [H.out, show p.length - 1 - k = 0 by omega]; rfl
        · have b5 : ((p[p.length - 1].toNat : Int) != 34) = true := by simp; omega
          go_enter Tryd.func31, Tryd.ntmps31
          go_wp2
          go_ret
          refine ⟨ret_bool ?_, rfl⟩
          unfold Lex.refQuoted
          rw [List.getElem?_eq_getElem hl1]
          simp [h5]
      · have b4 : ((p[0].toNat : Int) != 34) = true := by simp; omega
        go_enter Tryd.func31, Tryd.ntmps31
        go_wp2
        go_ret
        refine ⟨ret_bool ?_, rfl⟩
        unfold Lex.refQuoted
        rw [List.getElem?_eq_getElem hl0]
        simp [h4]

set_option maxHeartbeats 1000000 in
theorem refRun_any (p : List UInt8) (w : World) (hp : p.length ≤ 100000) :
    Calls Tryd.prog 32 #[.string ⟨p.toArray⟩] w fun e w' => e = .returned (.int .i64 (Lex.refRun p)) ∧ w = w' := by
  go_enter Tryd.func32, Tryd.ntmps32
  go_wp2
  go_loop [3, 4] (fun d i => ∃ k : Nat, k ≤ p.length ∧ d = .bool ((p.take k).all Lex.isDig) ∧ i = .int .i64 k ∧ Hid ((p.take k).all Lex.isWord = true)) (fun _ i => p.length - (intOf i).toNat)
  case atStart => exact ⟨0, by omega, rfl, rfl, rfl⟩
  case round =>
    obtain ⟨k, hk, rfl, rfl, H⟩ := hrel
    by_cases hlt : k < p.length
    · have HW : Hid ((p.take (k + 1)).all Lex.isWord = ((p.take k).all Lex.isWord && Lex.isWord p[k])) := by
        show _ = _
        rw [List.take_succ_eq_append_getElem hlt, List.all_append]; simp
      have HD : Hid ((p.take (k + 1)).all Lex.isDig = ((p.take k).all Lex.isDig && Lex.isDig p[k])) := by
        show _ = _
        rw [List.take_succ_eq_append_getElem hlt, List.all_append]; simp
      cases hw : Lex.isWord p[k]
      · have cW := fun W => refWord_any p[k] W
        rw [hw] at cW
        have CW := Lib.hid cW
        rw [hw] at HW
        clear cW hw
        go_wp2_with (go_at_call 20; refine (CW.out _).mono ?_; rintro e w' ⟨rfl, rfl⟩)
        go_ret
        refine ⟨ret_int ?_, rfl⟩
        have hall : p.all Lex.isWord = false := by
          rw [Bool.eq_false_iff]
          intro hh
          have : (p.take (k + 1)).all Lex.isWord = true := by
            rw [List.all_eq_true] at hh ⊢
            exact fun x hx => hh x (List.mem_of_mem_take hx)
          rw [HW.out] at this; simp at this
        simp [Lex.refRun, hall]
      · have cW := fun W => refWord_any p[k] W
        rw [hw] at cW
        have CW := Lib.hid cW
        rw [hw] at HW
        clear cW hw
        have HN : Hid ((p.take (k + 1)).all Lex.isWord = true) := by
          show _ = _
          rw [HW.out, H.out]; rfl
        cases hd : (p.take k).all Lex.isDig
        · rw [hd] at HD
          clear hd
          go_wp2_with (first | (go_at_call 20; refine (CW.out _).mono ?_; rintro e w' ⟨rfl, rfl⟩) | (go_at_call 21; refine (refDigit_any _ _).mono ?_; rintro e w' ⟨rfl, rfl⟩))
          go_round
          case rel => exact ⟨k + 1, by omega, by rw [HD.out]; first | rfl | simp, by go_num, HN⟩
          case measure => simp [intOf]; omega
        · rw [hd] at HD
          clear hd
          go_wp2_with (first | (go_at_call 20; refine (CW.out _).mono ?_; rintro e w' ⟨rfl, rfl⟩) | (go_at_call 21; refine (refDigit_any _ _).mono ?_; rintro e w' ⟨rfl, rfl⟩))
          go_round
          case rel => exact ⟨k + 1, by omega, by rw [HD.out]; first | rfl | simp, by go_num, HN⟩
          case measure => simp [intOf]; omega
    · obtain rfl : k = p.length := by omega
      rw [List.take_length]
      have hall : Hid (p.all Lex.isWord = true) := by have := H.out; rw [List.take_length] at this; exact this
      clear H
      by_cases h0 : p.length = 0
      · have b0 : ((p.length : Int) == 0) = true := by rw [h0]; rfl
        have H0 := Lib.hid h0; clear h0
        go_wp2
        go_ret
        exact ⟨ret_int (by simp [Lex.refRun, hall.out, H0.out]), rfl⟩
      · have hl0 : 0 < p.length := by omega
        have b0 : ((p.length : Int) == 0) = false := by rw [beq_eq_false_iff_ne]; omega
        by_cases h95 : p[0].toNat = 95
        · have b1 : ((p[0].toNat : Int) == 95) = true := by simp; omega
          go_wp2
          go_ret
          refine ⟨ret_int ?_, rfl⟩
          unfold Lex.refRun
          rw [hall.out, if_neg (by simp), if_pos (.inr (by rw [List.getElem?_eq_getElem hl0]; exact h95))]; rfl
        · have b1 : ((p[0].toNat : Int) == 95) = false := by simp; omega
          have hh : ¬ (p.length = 0 ∨ (p[0]?.getD 0).toNat = 95) := by
            rw [List.getElem?_eq_getElem hl0]; rintro (h | h)
            · exact h0 h
            · exact h95 h
          have HH := Lib.hid hh; clear hh
          have HR : Hid (Lex.refRun p = if p.all Lex.isDig ∧ p.length ≤ 8 then 2 else if ¬ p.all Lex.isDig ∧ p.length ≤ 20 then 1 else 0) := by
            show _ = _
            unfold Lex.refRun
            rw [hall.out, if_neg (by simp), if_neg HH.out]
          clear HH h95 h0
          cases hd : p.all Lex.isDig
          · rw [hd] at HR
            clear hd
            by_cases h20 : p.length ≤ 20
            · have h20' : (p.length : Int) ≤ 20 := by omega
              go_wp2
              go_ret
              exact ⟨ret_int (by rw [HR.out, if_neg (by simp), if_pos ⟨by simp, h20⟩]; rfl), rfl⟩
            · have h20' : ¬ (p.length : Int) ≤ 20 := by omega
              go_wp2
              go_ret
              exact ⟨ret_int (by rw [HR.out, if_neg (by simp), if_neg (by simp; omega)]; rfl), rfl⟩
          · rw [hd] at HR
            clear hd
            by_cases h8 : p.length ≤ 8
            · have h8' : (p.length : Int) ≤ 8 := by omega
              go_wp2
              go_ret
              exact ⟨ret_int (by rw [HR.out, if_pos ⟨trivial, h8⟩]; rfl), rfl⟩
            · have h8' : ¬ (p.length : Int) ≤ 8 := by omega
              go_wp2
              go_ret
              exact ⟨ret_int (by rw [HR.out, if_neg (by simp; omega), if_neg (by simp)]; rfl), rfl⟩

theorem refRun_le (p : List UInt8) : Lex.refRun p ≤ 2 := by
  unfold Lex.refRun; repeat (split <;> try omega)
theorem quoted_len {p : List UInt8} (h : Lex.refQuoted p = true) : 2 ≤ p.length := by
  simp [Lex.refQuoted] at h; omega
set_option maxHeartbeats 1000000 in
theorem kind_call (p : List UInt8) (w : World) (hp : p.length ≤ 100000) :
    Calls Tryd.prog 17 #[.string ⟨p.toArray⟩] w fun e w' => e = .returned (.tuple #[.int .i64 (Lex.refKind p).1, .string ⟨(Lex.refKind p).2.toArray⟩]) ∧ Below w.heap.size w w' := by
  cases h1 : Lex.refSym p
  · have c1 := symbol_any p w hp
    rw [h1] at c1
    have C1 := Lib.hid c1; clear c1
    cases h2 : Lex.refQuoted p
    · have c2 := fun W => quoted_any p W hp
      rw [h2] at c2
      have C2 := Lib.hid c2; clear c2
      have hr := refRun_le p
      by_cases h3 : Lex.refRun p = 0
      · have HK : Hid (Lex.refKind p = (0, [])) := by unfold Lex.refKind; rw [h1, h2, h3]; exact rfl
        have c3 := fun W => refRun_any p W hp
        rw [h3] at c3
        have C3 := Lib.hid c3
        clear h1 h2 h3 c3 hr
        go_enter Tryd.func17, Tryd.ntmps17
        go_wp2_with fail
        refine C1.out.mono ?_
        rintro e w1 ⟨rfl, hb⟩
        go_wp2_with fail
        refine (C2.out _).mono ?_
        rintro e w2 ⟨rfl, rfl⟩
        go_wp2_with fail
        refine (C3.out _).mono ?_
        rintro e w2 ⟨rfl, rfl⟩
        go_wp2
        go_ret2
        rw [HK.out]
        exact ⟨rfl, hb⟩
      · have HK : Hid (Lex.refKind p = (Lex.refRun p, p)) := by unfold Lex.refKind; rw [h1, h2, if_neg h3]; exact rfl
        have c3 := fun W => refRun_any p W hp
        obtain ⟨r, hr'⟩ : ∃ r, Lex.refRun p = r := ⟨_, rfl⟩
        rw [hr'] at c3 HK hr h3
        have C3 := Lib.hid c3
        have b3 : ((r : Int) == 0) = false := by simp; omega
        clear h1 h2 h3 c3 hr'
        go_enter Tryd.func17, Tryd.ntmps17
        go_wp2_with fail
        refine C1.out.mono ?_
        rintro e w1 ⟨rfl, hb⟩
        go_wp2_with fail
        refine (C2.out _).mono ?_
        rintro e w2 ⟨rfl, rfl⟩
        go_wp2_with fail
        refine (C3.out _).mono ?_
        rintro e w2 ⟨rfl, rfl⟩
        go_wp2
        go_ret2
        rw [HK.out]
        exact ⟨rfl, hb⟩
    · have c2 := fun W => quoted_any p W hp
      rw [h2] at c2
      have C2 := Lib.hid c2; clear c2
      have hq := quoted_len h2
      have HK : Hid (Lex.refKind p = (4, (p.take (p.length - 1)).drop 1)) := by
        unfold Lex.refKind; rw [h1, h2, List.drop_take]; exact rfl
      clear h1 h2
      have hq1 : (1 : Int) ≤ (p.length : Int) - 1 := by omega
      have hq2 : (p.length : Int) - 1 ≤ (p.length : Int) := by omega
      have hq3 : IntKind.i64.wrap ((p.length : Int) - 1) = (p.length : Int) - 1 := IntWalk.i64_in _ (by omega)
      have hq4 : (0 : Int) ≤ (p.length : Int) - 1 := by omega
      have hq5 : ((p.length : Int) - 1).toNat = p.length - 1 := by omega
      go_enter Tryd.func17, Tryd.ntmps17
      go_wp2_with fail
      refine C1.out.mono ?_
      rintro e w1 ⟨rfl, hb⟩
      go_wp2_with fail
      refine (C2.out _).mono ?_
      rintro e w2 ⟨rfl, rfl⟩
      go_wp2_with fail
      go_quiet (fail)
      clear hq3 hq5
      go_wp2
      go_ret2
      rw [HK.out]
      exact ⟨by first | rfl | simp, below_drewN hb _⟩
  · have c1 := symbol_any p w hp
    rw [h1] at c1
    have C1 := Lib.hid c1; clear c1
    have HK : Hid (Lex.refKind p = (3, p)) := by unfold Lex.refKind; rw [h1]; exact rfl
    clear h1
    go_enter Tryd.func17, Tryd.ntmps17
    go_wp2_with fail
    refine C1.out.mono ?_
    rintro e w1 ⟨rfl, hb⟩
    go_wp2
    go_ret2
    rw [HK.out]
    exact ⟨rfl, hb⟩

/-- What is left of a gap. -/
theorem gap_step (cf : Bool) (c : UInt8) (r : List UInt8) (h : Lex.gapLen cf (c :: r) = (c :: r).length) :
    (cf = false ∧ (c.toNat = 32 ∨ c.toNat = 9 ∨ c.toNat = 13 ∨ c.toNat = 10) ∧ Lex.gapLen false r = r.length) ∨ (cf = false ∧ c.toNat = 37 ∧ Lex.gapLen true r = r.length) ∨
    (cf = true ∧ c.toNat = 10 ∧ Lex.gapLen false r = r.length) ∨ (cf = true ∧ c.toNat ≠ 10 ∧ Lex.gapLen true r = r.length) := by
  cases cf
  · simp only [Lex.gapLen, List.length_cons] at h
    split at h
    · rename_i hw
      exact .inl ⟨rfl, by omega, by omega⟩
    · split at h
      · rename_i hp; exact .inr (.inl ⟨rfl, hp, by omega⟩)
      · omega
  · simp only [Lex.gapLen, List.length_cons] at h
    split at h
    · rename_i hp; exact .inr (.inr (.inl ⟨rfl, hp, by omega⟩))
    · rename_i hp; exact .inr (.inr (.inr ⟨rfl, hp, by omega⟩))
set_option maxHeartbeats 1000000 in
theorem gap_true (p : List UInt8) (w : World) (hp : p.length ≤ 100000) (hg : Lex.gapLen false p = p.length) :
    Calls Tryd.prog 16 #[.string ⟨p.toArray⟩] w fun e w' => e = .returned (.bool true) ∧ w = w' := by
  have HG := Lib.hid hg; clear hg
  go_enter Tryd.func16, Tryd.ntmps16
  go_wp2
  go_loop [3, 4] (fun d i => ∃ (k : Nat) (cf : Bool), k ≤ p.length ∧ d = .bool cf ∧ i = .int .i64 k ∧ Hid (Lex.gapLen cf (p.drop k) = (p.drop k).length)) (fun _ i => p.length - (intOf i).toNat)
  case atStart => exact ⟨0, false, by omega, rfl, rfl, HG⟩
  case round =>
    clear HG
    obtain ⟨k, cf, hk, rfl, rfl, H⟩ := hrel
    by_cases hlt : k < p.length
    · have hst := H.out
      rw [List.drop_eq_getElem_cons hlt] at hst
      clear H
      rcases gap_step _ _ _ hst with ⟨rfl, hc, hn⟩ | ⟨rfl, hc, hn⟩ | ⟨rfl, hc, hn⟩ | ⟨rfl, hc, hn⟩
      · have HN := Lib.hid hn
        clear hst hn
        rcases hc with hc | hc | hc | hc
        all_goals
          have b1 : ((p[k].toNat : Int) == 10) = decide (p[k].toNat = 10) := by rw [hc]; decide
          have b2 : ((p[k].toNat : Int) == 37) = decide (p[k].toNat = 37) := by rw [hc]; decide
          have b3 : ((p[k].toNat : Int) != 32) = decide (p[k].toNat ≠ 32) := by rw [hc]; decide
          have b4 : ((p[k].toNat : Int) != 9) = decide (p[k].toNat ≠ 9) := by rw [hc]; decide
          have b5 : ((p[k].toNat : Int) != 13) = decide (p[k].toNat ≠ 13) := by rw [hc]; decide
          have b6 : ((p[k].toNat : Int) != 10) = decide (p[k].toNat ≠ 10) := by rw [hc]; decide
          go_wp2
          go_round
          case rel => exact ⟨k + 1, false, by omega, by first | rfl | simp [hc], by go_num, HN⟩
          case measure => simp [intOf]; omega
      · have HN := Lib.hid hn
        clear hst hn
        have b1 : ((p[k].toNat : Int) == 10) = false := by simp; omega
        have b2 : ((p[k].toNat : Int) == 37) = true := by simp; omega
        clear hc
        go_wp2
        go_round
        case rel => exact ⟨k + 1, true, by omega, by first | rfl | simp, by go_num, HN⟩
        case measure => simp [intOf]; omega
      · have HN := Lib.hid hn
        clear hst hn
        have b1 : ((p[k].toNat : Int) == 10) = true := by simp; omega
        have b2 : ((p[k].toNat : Int) == 37) = false := by simp; omega
        have b3 : ((p[k].toNat : Int) != 32) = true := by simp; omega
        have b4 : ((p[k].toNat : Int) != 9) = true := by simp; omega
        have b5 : ((p[k].toNat : Int) != 13) = true := by simp; omega
        have b6 : ((p[k].toNat : Int) != 10) = false := by simp; omega
        clear hc
        go_wp2
        go_round
        case rel => exact ⟨k + 1, false, by omega, by first | rfl | simp, by go_num, HN⟩
        case measure => simp [intOf]; omega
      · have HN := Lib.hid hn
        clear hst hn
        have b1 : ((p[k].toNat : Int) == 10) = false := by simp; omega
        clear hc
        go_wp2
        go_round
        case rel => exact ⟨k + 1, true, by omega, by first | rfl | simp, by go_num, HN⟩
        case measure => simp [intOf]; omega
    · go_wp2
      go_ret
      exact ⟨rfl, rfl⟩
end Go.Proofs.YtbeodifgekhhpaaDoor
