/-
  The walks over the small functions of package lexer.
-/
import Derived.Test.YtbeodifgekhhpaaDoorRows
import Derived.Test.YtbeodifgekhhpaaDoorLexPlain
import Derived.Test.YtbeodifgekhhpaaDoorBase
namespace Go.Proofs.YtbeodifgekhhpaaDoor
open Go.RowKit

attribute [local go_sem] ba_get ba_extract ba_append

set_option maxHeartbeats 400000 in
theorem isDigit_any (c : UInt8) (w : World) :
    Calls Tryd.prog 38 #[.int .u8 c.toNat] w fun e w' => e = .returned (.bool (Lex.isDig c)) ∧ w = w' := by
  go_enter Tryd.func38, Tryd.ntmps38
  go_wp2
  all_goals go_ret
  all_goals refine ⟨ret_bool ?_, rfl⟩
  all_goals unfold Lex.isDig
  all_goals rw [Bool.eq_iff_iff]; simp; omega

set_option maxHeartbeats 400000 in
theorem isWord_any (c : UInt8) (w : World) :
    Calls Tryd.prog 37 #[.int .u8 c.toNat] w fun e w' => e = .returned (.bool (Lex.isWord c)) ∧ w = w' := by
  go_enter Tryd.func37, Tryd.ntmps37
  go_wp2_with (go_at_call 38; refine (isDigit_any _ _).mono ?_; rintro e w' ⟨rfl, rfl⟩)
  all_goals go_ret
  all_goals refine ⟨ret_bool ?_, rfl⟩
  all_goals unfold Lex.isWord Lex.isDig
  all_goals rw [Bool.eq_iff_iff]; simp; omega

theorem runLen_drop {l : List UInt8} {k : Nat} (h : k < l.length) : Lex.runLen (l.drop k) = if Lex.isWord l[k] then Lex.runLen (l.drop (k + 1)) + 1 else 0 := by
  rw [List.drop_eq_getElem_cons h]; rfl
theorem runDig_drop {l : List UInt8} {k : Nat} (h : k < l.length) : Lex.runDig (l.drop k) = if Lex.isWord l[k] then (if Lex.isDig l[k] then Lex.runDig (l.drop (k + 1)) + 1 else Lex.runDig (l.drop (k + 1))) else 0 := by
  rw [List.drop_eq_getElem_cons h]; rfl

set_option maxHeartbeats 400000 in
theorem run_any (l : List UInt8) (w : World) (hl : l.length ≤ 100000) :
    Calls Tryd.prog 33 #[.string ⟨l.toArray⟩] w fun e w' => e = .returned (.tuple #[.int .i64 (Lex.runLen l), .int .i64 (Lex.runDig l)]) ∧ w = w' := by
  go_enter Tryd.func33, Tryd.ntmps33
  go_wp2
  go_loop [4, 5] (fun i n => ∃ k m : Nat, k ≤ l.length ∧ m ≤ k ∧ i = .int .i64 k ∧ n = .int .i64 m ∧ Hid (Lex.runLen l = k + Lex.runLen (l.drop k) ∧ Lex.runDig l = m + Lex.runDig (l.drop k))) (fun i _ => l.length - (intOf i).toNat)
  case atStart => exact ⟨0, 0, Nat.zero_le _, Nat.le_refl _, rfl, rfl, by simp [Hid]⟩
  case round =>
    obtain ⟨k, m, hk, hm, rfl, rfl, H⟩ := hrel
    by_cases hlt : k < l.length
    · have HL := Lib.hid (runLen_drop hlt)
      have HD := Lib.hid (runDig_drop hlt)
      go_wp2_with (first | (go_at_call 37; refine (isWord_any _ _).mono ?_; rintro e w' ⟨rfl, rfl⟩) | (go_at_call 38; refine (isDigit_any _ _).mono ?_; rintro e w' ⟨rfl, rfl⟩))
      · rename_i h1 h2
        refine ⟨⟨k + 1, m + 1, hlt, by omega, by go_num, by go_num, ?_⟩, by simp [intOf]; omega⟩
        have := H.out; have e1 := HL.out; have e2 := HD.out
        rw [h1] at e1 e2; rw [h2] at e2; simp at e1 e2
        exact ⟨by omega, by omega⟩
      · rename_i h1 h2
        refine ⟨⟨k + 1, m, hlt, by omega, by go_num, by go_num, ?_⟩, by simp [intOf]; omega⟩
        have := H.out; have e1 := HL.out; have e2 := HD.out
        rw [h1] at e1 e2; rw [h2] at e2; simp at e1 e2
        exact ⟨by omega, by omega⟩
      · go_ret2
        rename_i h1
        have := H.out; have e1 := HL.out; have e2 := HD.out
        rw [h1] at e1 e2; simp at e1 e2
        rw [this.1, this.2, e1, e2]
        exact ⟨rfl, rfl⟩
    · go_wp2
      go_ret2
      have := H.out
      obtain rfl : k = l.length := by omega
      simp [Lex.runLen, Lex.runDig] at this
      rw [this.1, this.2]
      exact ⟨rfl, rfl⟩

set_option maxHeartbeats 400000 in
theorem numberLength_any (l : List UInt8) (w : World) (hl : l.length ≤ 100000) :
    Calls Tryd.prog 22 #[.string ⟨l.toArray⟩] w fun e w' => e = .returned (.int .i64 (Lex.numLen l)) ∧ w = w' := by
  have h1 := Lex.runLen_le l
  have h2 := Lex.runDig_le l
  go_enter Tryd.func22, Tryd.ntmps22
  go_wp2_with (go_at_call 33; refine (run_any _ _ hl).mono ?_; rintro e w' ⟨rfl, rfl⟩)
  all_goals go_ret
  all_goals refine ⟨ret_int ?_, rfl⟩
  all_goals unfold Lex.numLen
  all_goals first | (rw [if_pos (by omega)]; rfl) | (rw [if_neg (by omega)])

set_option maxHeartbeats 400000 in
theorem nameLength_any (c : UInt8) (r : List UInt8) (w : World) (hl : (c :: r).length ≤ 100000) :
    Calls Tryd.prog 23 #[.string ⟨(c :: r).toArray⟩] w fun e w' => e = .returned (.int .i64 (Lex.nameLen (c :: r))) ∧ w = w' := by
  have h1 := Lex.runLen_le (c :: r)
  have h2 := Lex.runDig_le (c :: r)
  go_enter Tryd.func23, Tryd.ntmps23
  go_wp2_with (go_at_call 33; refine (run_any _ _ hl).mono ?_; rintro e w' ⟨rfl, rfl⟩)
  all_goals go_ret
  all_goals refine ⟨ret_int ?_, rfl⟩
  all_goals unfold Lex.nameLen
  all_goals rw [List.headD_cons]
  all_goals rename_i h3
  all_goals first | (rw [if_pos (by omega)]; rfl) | skip
  all_goals simp at h3
  · rw [if_pos (by omega)]; rfl
  · rw [if_neg (by omega)]

theorem txtGo_drop {l : List UInt8} {i : Nat} (h : i < l.length) : Lex.txtGo i (l.drop i) = if 201 < i then 0 else if l[i].toNat = 34 then i + 1 else if l[i].toNat < 32 ∨ 126 < l[i].toNat then 0 else Lex.txtGo (i + 1) (l.drop (i + 1)) := by
  rw [List.drop_eq_getElem_cons h]; rfl
theorem txtGo_big (i : Nat) (l : List UInt8) (h : 201 < i) : Lex.txtGo i l = 0 := by
  cases l <;> simp [Lex.txtGo]; omega
set_option maxHeartbeats 400000 in
theorem textLength_any (c : UInt8) (r : List UInt8) (w : World) (hl : (c :: r).length ≤ 100000) :
    Calls Tryd.prog 24 #[.string ⟨(c :: r).toArray⟩] w fun e w' => e = .returned (.int .i64 (Lex.textLen (c :: r))) ∧ w = w' := by
  obtain ⟨l, hlr⟩ : ∃ l, l = c :: r := ⟨_, rfl⟩
  have h0 : 0 < l.length := by simp [hlr]
  have hc : l[0] = c := by subst hlr; rfl
  have HT : Lex.textLen l = if c.toNat = 34 then Lex.txtGo 1 (l.drop 1) else 0 := by rw [hlr]; rfl
  rw [← hlr] at hl ⊢
  have HC := Lib.hid hc; clear hc hlr
  have HT' := Lib.hid HT; clear HT
  go_enter Tryd.func24, Tryd.ntmps24
  go_wp2
  · go_ret
    have h1 : ¬ l[0].toNat = 34 := by
      have : ((l[0].toNat : Int) != 34) = true := by assumption
      simp at this; omega
    refine ⟨ret_int ?_, rfl⟩
    have hc := HC.out; rw [HT'.out, ← hc]; rw [if_neg (by omega)]; rfl
  · have h1 : l[0].toNat = 34 := by
      have : ((l[0].toNat : Int) != 34) = false := by assumption
      simp at this; omega
    have HT : Hid (Lex.textLen l = Lex.txtGo 1 (l.drop 1)) := by
      have := HT'.out; have hc := HC.out; rw [← hc, if_pos (by omega)] at this; exact this
    clear h1
    clear HT' HC
    go_loop [3] (fun i => ∃ k : Nat, 1 ≤ k ∧ k ≤ l.length ∧ k ≤ 202 ∧ i = .int .i64 k ∧ Hid (Lex.textLen l = Lex.txtGo k (l.drop k))) (fun i => l.length - (intOf i).toNat)
    case atStart => exact ⟨1, by omega, by omega, by omega, rfl, HT⟩
    case round =>
      obtain ⟨k, hk1, hk, hk2, rfl, H⟩ := hrel
      clear HT
      by_cases hlt : k < l.length
      · have HL := Lib.hid (txtGo_drop hlt)
        by_cases hle : k ≤ 201
        · by_cases e1 : l[k].toNat = 34
          · have b1 : ((l[k].toNat : Int) == 34) = true := by simp [e1]
            go_wp2
            go_ret
            refine ⟨ret_int ?_, rfl⟩
            have := H.out; rw [this, HL.out, if_neg (by omega), if_pos e1]; rfl
          · have b1 : ((l[k].toNat : Int) == 34) = false := by simp; omega
            by_cases e2 : l[k].toNat < 32 ∨ 126 < l[k].toNat
            · have e2' : (l[k].toNat : Int) < 32 ∨ 126 < (l[k].toNat : Int) := by omega
              go_wp2
              all_goals go_ret
              all_goals refine ⟨ret_int ?_, rfl⟩
              all_goals (have := H.out; rw [this, HL.out, if_neg (by omega), if_neg e1, if_pos e2]; rfl)
            · have e3 : 32 ≤ (l[k].toNat : Int) := by omega
              have e4 : (l[k].toNat : Int) ≤ 126 := by omega
              go_wp2
              all_goals go_round
              case rel =>
                refine ⟨k + 1, by omega, hlt, by omega, by go_num, ?_⟩
                have := H.out; rw [HL.out, if_neg (by omega), if_neg e1, if_neg e2] at this; exact this
              case measure => simp [intOf]; omega
        · have hle' : ¬ (k : Int) ≤ 201 := by omega
          go_wp2
          go_ret
          refine ⟨ret_int ?_, rfl⟩
          have := H.out; rw [this, HL.out, if_pos (by omega)]; rfl
      · go_wp2
        go_ret
        refine ⟨ret_int ?_, rfl⟩
        have := H.out; rw [this, List.drop_eq_nil_of_le (by omega)]; rfl
end Go.Proofs.YtbeodifgekhhpaaDoor
