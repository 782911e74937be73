/-
  Plain laws: the reference finds the same token, as the longest piece that is one. No program in sight.
-/
import Derived.Test.YtbeodifgekhhpaaDoorLexCoverT
namespace Go.Proofs.YtbeodifgekhhpaaDoor.Lex

/-- The piece of n bytes is a token, and no word byte makes it longer. -/
def okAt (s : List UInt8) (n : Nat) : Prop := (refKind (s.take n)).1 ≠ 0 ∧ ¬ (((refKind (s.take n)).1 = 1 ∨ (refKind (s.take n)).1 = 2) ∧ ∃ h : n < s.length, isWord s[n] = true)
theorem runLen_app (p r : List UInt8) (h : p.all isWord = true) : runLen (p ++ r) = p.length + runLen r := by
  induction p with
  | nil => simp
  | cons c p ih =>
    simp only [List.all_cons, Bool.and_eq_true] at h
    simp only [List.cons_append, runLen, h.1, if_true, ih h.2, List.length_cons]
    omega
theorem txtGo_app (i : Nat) (mid r : List UInt8) (h : mid.all midOk = true) (hi : i + mid.length ≤ 201) : txtGo i (mid ++ 34 :: r) = i + mid.length + 1 := by
  induction mid generalizing i with
  | nil => simp [txtGo]; simp at hi; omega
  | cons c mid ih =>
    simp only [List.all_cons, Bool.and_eq_true] at h
    have hc : 32 ≤ c.toNat ∧ c.toNat ≤ 126 ∧ c.toNat ≠ 34 := by
      have := h.1; simp [midOk] at this; exact ⟨this.1.1, this.1.2, this.2⟩
    simp only [List.length_cons] at hi
    simp only [List.cons_append, txtGo, List.length_cons]
    rw [if_neg (by omega), if_neg (by omega), if_neg (by omega), ih (i + 1) h.2 (by omega)]
    omega
theorem zero_of_run {s : List UInt8} (h : runLen s = 0) : numLen s = 0 ∧ nameLen s = 0 := by
  have := runDig_le s
  constructor
  · unfold numLen; split <;> omega
  · unfold nameLen; rw [if_pos (by omega)]
theorem tokLen_sym {s : List UInt8} (h : 0 < symLen s) (ht : textLen s = 0) : tokLen s = some (3, symLen s) := by
  obtain ⟨a, b⟩ := zero_of_run (runLen_of_sym h)
  unfold tokLen
  rw [a, b, ht]; simp [h]
theorem tokLen_text {s : List UInt8} (h : 0 < textLen s) : tokLen s = some (4, textLen s) := by
  obtain ⟨a, b⟩ := zero_of_run (runLen_of_text h)
  unfold tokLen
  rw [a, b]; simp [h]
theorem sym_app (p r : List UInt8) (h : refSym p = true) : p.length ≤ symLen (p ++ r) ∧ 0 < symLen (p ++ r) ∧ textLen (p ++ r) = 0 := by
  simp only [refSym, List.any_eq_true, beq_iff_eq] at h
  obtain ⟨s, hs, rfl⟩ := h
  simp only [refSymbols, List.mem_cons, List.not_mem_nil, or_false] at hs
  rcases hs with rfl | rfl | rfl | rfl | rfl | rfl | rfl | rfl | rfl | rfl | rfl | rfl | rfl
  all_goals first
    | (simp [symLen, symbols, firstPre, List.isPrefixOf, textLen]; done)
    | (cases r with
       | nil => simp [symLen, symbols, firstPre, List.isPrefixOf, textLen]
       | cons d r =>
         by_cases hd : d = 62
         · subst hd; simp [symLen, symbols, firstPre, List.isPrefixOf, textLen]
         · have hd' : (62 == d) = false := by simpa using fun e => hd e.symm
           simp [symLen, symbols, firstPre, List.isPrefixOf, textLen, hd'])
theorem okAt_tok {s : List UInt8} {n : Nat} (hn : 1 ≤ n) (hl : n ≤ s.length) (h : okAt s n) : ∃ k m, tokLen s = some (k, m) ∧ n ≤ m := by
  obtain ⟨h1, h2⟩ := h
  have hsp : s = s.take n ++ s.drop n := (List.take_append_drop n s).symm
  have hpl : (s.take n).length = n := by simp; omega
  have hstop : ∀ hf : n < s.length, ¬ isWord s[n] = true → runLen (s.drop n) = 0 := by
    intro hf hw
    rw [List.drop_eq_getElem_cons hf]; simp [runLen, hw]
  generalize hp : s.take n = p at *
  unfold refKind at h1 h2
  by_cases hs : refSym p = true
  · obtain ⟨a, b, c⟩ := sym_app p (s.drop n) hs
    rw [← hsp] at a b c
    exact ⟨3, _, tokLen_sym b c, by omega⟩
  · rw [if_neg hs] at h1 h2
    by_cases hq : refQuoted p = true
    · have hq' := hq
      simp only [refQuoted, Bool.and_eq_true, decide_eq_true_eq] at hq'
      obtain ⟨⟨⟨⟨q1, q2⟩, q3⟩, q4⟩, q5⟩ := hq'
      have hpe : p = 34 :: ((p.drop 1).take (p.length - 2) ++ [34]) := by
        cases p with
        | nil => simp at q1
        | cons c r =>
          simp only [List.getElem?_cons_zero, Option.getD_some] at q3
          have hc : c = 34 := UInt8.toNat_inj.1 q3
          simp only [List.length_cons] at q1 q4 ⊢
          have hrl : r.length - 1 < r.length := by omega
          have e1 : r.length + 1 - 1 = (r.length - 1) + 1 := by omega
          rw [e1, List.getElem?_cons_succ, List.getElem?_eq_getElem hrl] at q4
          have hl34 : r[r.length - 1] = 34 := UInt8.toNat_inj.1 q4
          have e2 : r.length + 1 - 2 = r.length - 1 := by omega
          rw [e2, List.drop_one, List.tail_cons, hc]
          congr 1
          conv => lhs; rw [← List.take_append_drop (r.length - 1) r]
          congr 1
          rw [List.drop_eq_getElem_cons hrl, hl34]
          simp; omega
      have hml : ((p.drop 1).take (p.length - 2)).length = n - 2 := by simp; omega
      have htx : textLen s = n := by
        rw [hsp, hpe]
        simp only [List.cons_append, List.append_assoc, textLen]
        rw [if_pos (by rfl), txtGo_app 1 _ _ q5 (by omega)]
        omega
      exact ⟨4, _, tokLen_text (by omega), by omega⟩
    · rw [if_neg hq] at h1 h2
      by_cases hr : refRun p = 0
      · rw [if_pos hr] at h1; simp at h1
      · rw [if_neg hr] at h1 h2
        simp only at h1 h2
        have hall : p.all isWord = true := by
          by_cases ha : p.all isWord = true
          · exact ha
          · exact absurd (by unfold refRun; simp [ha]) hr
        have hle : refRun p = 1 ∨ refRun p = 2 := by
          revert hr; unfold refRun; repeat (first | split | simp)
        have hrun : runLen s = n := by
          rw [hsp, runLen_app p _ hall]
          by_cases hf : n < s.length
          · rw [hstop hf (fun hw => h2 ⟨hle, hf, hw⟩)]; omega
          · rw [List.drop_eq_nil_of_le (by omega)]; simp [runLen]; omega
        have hdig : p.all isDig = decide (runDig s = n) := by
          have := run_digits s
          rw [hrun, hp] at this; exact this
        have hhead : (p[0]?.getD 0).toNat = (s.headD 0).toNat := by
          rw [hsp]
          cases p with
          | nil => simp at hpl; omega
          | cons c r => simp
        unfold refRun at hr
        rw [hall, if_neg (by simp), hhead, hpl] at hr
        split at hr
        · simp at hr
        · rename_i h95
          split at hr
          · rename_i hd
            have hnum : numLen s = n := by
              unfold numLen
              rw [hrun, if_neg]
              rw [hdig] at hd
              simp at hd; omega
            exact ⟨2, n, by unfold tokLen; rw [hnum, if_pos (by omega)], Nat.le_refl _⟩
          · split at hr
            · rename_i hd
              have hne : runDig s ≠ n := by
                have := hd.1; rw [hdig] at this; simpa using this
              have hnum : numLen s = 0 := by unfold numLen; rw [hrun, if_pos (.inl hne)]
              have hname : nameLen s = n := by
                unfold nameLen
                rw [hrun, if_neg]
                rintro (h | h | h)
                · exact hne h
                · omega
                · exact h95 (.inr h)
              exact ⟨1, n, by unfold tokLen; rw [hnum, hname, if_neg (by omega), if_pos (by omega)], Nat.le_refl _⟩
            · simp at hr
theorem tok_okAt {s : List UInt8} {k m : Nat} (h : tokLen s = some (k, m)) : m ≤ 202 ∧ okAt s m := by
  obtain ⟨h0, h1, hk⟩ := tokLen_bound h
  have hrk := refKind_piece h
  constructor
  · rcases hk with ⟨rfl, rfl⟩ | ⟨rfl, rfl, _⟩ | ⟨rfl, rfl, _⟩ | ⟨rfl, rfl, _⟩
    · unfold numLen at h0 ⊢; split at h0
      · omega
      · rename_i hh; rw [if_neg hh]; omega
    · unfold nameLen at h0 ⊢; split at h0
      · omega
      · rename_i hh; rw [if_neg hh]; omega
    · exact (text_piece h0).2.1
    · have hm := firstPre_mem s symbols h0
      have : ∀ x ∈ symbols, x.length ≤ 202 := by decide
      have h2 := this _ hm
      rw [List.length_take] at h2
      rw [show firstPre s symbols = symLen s from rfl] at h2
      omega
  · unfold okAt
    rw [hrk]
    refine ⟨by rcases hk with ⟨rfl, _⟩ | ⟨rfl, _⟩ | ⟨rfl, _⟩ | ⟨rfl, _⟩ <;> simp, ?_⟩
    rintro ⟨hk12, hf, hw⟩
    simp only at hk12
    have hr : runLen s = m := by
      rcases hk with ⟨rfl, rfl⟩ | ⟨rfl, rfl, _⟩ | ⟨rfl, _⟩ | ⟨rfl, _⟩
      · exact (runLen_of_num h0).symm
      · exact (runLen_of_name h0).symm
      · omega
      · omega
    have := runLen_stop s (by omega)
    simp only [hr] at this
    rw [this] at hw; cases hw
end Go.Proofs.YtbeodifgekhhpaaDoor.Lex
