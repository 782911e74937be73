/-
  Plain laws: pieces and their kinds. No program in sight.
-/
import Derived.Test.YtbeodifgekhhpaaDoorLexRunsT
import Derived.Test.YtbeodifgekhhpaaDoorLexRefPlain
namespace Go.Proofs.YtbeodifgekhhpaaDoor.Lex

def srcP (k : Nat) (t : List UInt8) : List UInt8 := if k = 4 then 34 :: (t ++ [34]) else t
theorem txt_mid (i : Nat) (r : List UInt8) (h : 0 < txtGo i r) : txtGo i r ≤ 202 ∧ (r.take (txtGo i r - i - 1)).all midOk = true := by
  induction r generalizing i with
  | nil => simp [txtGo] at h
  | cons c r ih =>
    simp only [txtGo] at h ⊢
    split at h
    · omega
    · rename_i h1
      simp only [if_neg h1]
      split at h
      · rename_i h2
        simp only [if_pos h2]
        have : i + 1 - i - 1 = 0 := by omega
        rw [this]
        exact ⟨by omega, rfl⟩
      · rename_i h2
        simp only [if_neg h2]
        split at h
        · omega
        · rename_i h3
          simp only [if_neg h3]
          obtain ⟨a, b⟩ := ih (i + 1) h
          have hle := txtGo_le (i + 1) r
          have e : txtGo (i + 1) r - i - 1 = (txtGo (i + 1) r - (i + 1) - 1) + 1 := by omega
          refine ⟨a, ?_⟩
          rw [e, List.take_succ_cons, List.all_cons, b, Bool.and_true]
          simp [midOk]; omega
/-- A text's piece: quotation marks around its middle. -/
theorem text_piece {x : List UInt8} (h : 0 < textLen x) : 2 ≤ textLen x ∧ textLen x ≤ 202 ∧ ∃ mid : List UInt8, mid.length = textLen x - 2 ∧ mid.all midOk = true ∧ x.take (textLen x) = 34 :: (mid ++ [34]) := by
  cases x with
  | nil => simp [textLen] at h
  | cons c r =>
    have hl := (textLen_le (c :: r)).1
    simp only [textLen] at h hl ⊢
    split at h
    · rename_i hc
      simp only [if_pos hc] at hl ⊢
      obtain ⟨a, b⟩ := txt_mid 1 r h
      obtain ⟨hl2, hq⟩ := txt_last 1 r h
      have hle := txtGo_le 1 r
      simp only [List.length_cons] at hl
      refine ⟨by omega, a, r.take (txtGo 1 r - 1 - 1), by simp; omega, b, ?_⟩
      have hc' : c = 34 := UInt8.toNat_inj.1 hc
      have hq' : r[txtGo 1 r - 1 - 1] = 34 := UInt8.toNat_inj.1 hq
      obtain ⟨m, hm⟩ : ∃ m, txtGo 1 r = m + 2 := ⟨txtGo 1 r - 2, by omega⟩
      simp only [hm] at hl2 hq' ⊢
      have e : m + 2 - 1 - 1 = m := by omega
      simp only [e] at hl2 hq' ⊢
      rw [show m + 2 = (m + 1) + 1 by omega, List.take_succ_cons, List.take_succ_eq_append_getElem hl2, hq', hc']
    · omega
theorem src_piece {x : List UInt8} {k m : Nat} (h : tokLen x = some (k, m)) : srcP k (tokText k (x.take m)) = x.take m := by
  obtain ⟨h0, h1, hk⟩ := tokLen_bound h
  rcases hk with ⟨rfl, rfl⟩ | ⟨rfl, rfl, _⟩ | ⟨rfl, rfl, _⟩ | ⟨rfl, rfl, _⟩
  · rfl
  · rfl
  · obtain ⟨a, b, mid, hml, _, hp⟩ := text_piece h0
    rw [hp]
    simp [srcP, tokText]
  · rfl
theorem refSym_head {p : List UInt8} (h : refSym p = true) : ∃ c r, p = c :: r ∧ isWord c = false ∧ c.toNat ≠ 34 := by
  simp only [refSym, List.any_eq_true, beq_iff_eq] at h
  obtain ⟨s, hs, rfl⟩ := h
  simp only [refSymbols, List.mem_cons, List.not_mem_nil, or_false] at hs
  rcases hs with rfl | rfl | rfl | rfl | rfl | rfl | rfl | rfl | rfl | rfl | rfl | rfl | rfl <;> exact ⟨_, _, rfl, by decide, by decide⟩
theorem refKind_piece {x : List UInt8} {k m : Nat} (h : tokLen x = some (k, m)) : refKind (x.take m) = (k, tokText k (x.take m)) := by
  obtain ⟨h0, h1, hk⟩ := tokLen_bound h
  have run : ∀ n, 0 < n → runLen x = n → refSym (x.take n) = false ∧ refQuoted (x.take n) = false ∧ (x.take n).all isWord = true ∧ (x.take n).all isDig = decide (runDig x = n) ∧ (x.take n).length = n ∧ ((x.take n)[0]?.getD 0).toNat = (x.headD 0).toNat := by
    intro n hn hr
    have hle := runLen_le x
    cases x with
    | nil => simp [runLen] at hr; omega
    | cons c r =>
      have hw := runLen_head (c := c) (r := r) (by omega)
      obtain ⟨n', rfl⟩ : ∃ n', n = n' + 1 := ⟨n - 1, by omega⟩
      refine ⟨?_, ?_, ?_, ?_, by simp; simp at hle; omega, by simp⟩
      · rw [Bool.eq_false_iff]
        intro hs
        obtain ⟨c', r', he, hc', _⟩ := refSym_head hs
        simp only [List.take_succ_cons, List.cons.injEq] at he
        rw [he.1] at hw; rw [hc'] at hw; cases hw
      · rw [Bool.eq_false_iff]
        intro hs
        simp [refQuoted] at hs
        rw [isWord_quote hs.1.1.2] at hw; cases hw
      · rw [← hr]; exact run_all _
      · rw [← hr]; exact run_digits _
  rcases hk with ⟨rfl, rfl⟩ | ⟨rfl, rfl, _⟩ | ⟨rfl, rfl, _⟩ | ⟨rfl, rfl, _⟩
  · have hr := runLen_of_num h0
    obtain ⟨a, b, c, d, e, f⟩ := run (numLen x) h0 hr.symm
    have hdig : runDig x = numLen x ∧ numLen x ≤ 8 := by
      have h0' := h0
      unfold numLen at h0'
      split at h0'
      · omega
      · omega
    have hhead : ¬ (x.headD 0).toNat = 95 := by
      cases x with
      | nil => simp [numLen, runLen, runDig] at h0
      | cons c0 r =>
        have hall : ((c0 :: r).take (numLen (c0 :: r))).all isDig = true := by rw [d]; simp [hdig.1]
        obtain ⟨n', hn'⟩ : ∃ n', numLen (c0 :: r) = n' + 1 := ⟨numLen (c0 :: r) - 1, by omega⟩
        rw [hn', List.take_succ_cons, List.all_cons] at hall
        simp [isDig] at hall
        simp; omega
    have hrr : refRun (x.take (numLen x)) = 2 := by
      unfold refRun
      rw [c, d, e, f, if_neg (by simp), if_neg (by rintro (h | h); omega; exact hhead h), if_pos ⟨by simp [hdig.1], hdig.2⟩]
    unfold refKind
    rw [a, b, hrr]
    rfl
  · have hr := runLen_of_name h0
    obtain ⟨a, b, c, d, e, f⟩ := run (nameLen x) h0 hr.symm
    have hnm : runDig x ≠ nameLen x ∧ nameLen x ≤ 20 ∧ ¬ (x.headD 0).toNat = 95 := by
      have h0' := h0
      unfold nameLen at h0'
      split at h0'
      · omega
      · rename_i hh; exact ⟨by omega, by omega, by omega⟩
    have hrr : refRun (x.take (nameLen x)) = 1 := by
      unfold refRun
      rw [c, d, e, f, if_neg (by simp), if_neg (by rintro (h | h); omega; exact hnm.2.2 h), if_neg (by simp [hnm.1]), if_pos ⟨by simp [hnm.1], hnm.2.1⟩]
    unfold refKind
    rw [a, b, hrr]
    rfl
  · obtain ⟨a, b, mid, hml, hall, hp⟩ := text_piece h0
    rw [hp]
    have h1 : refSym (34 :: (mid ++ [34])) = false := by
      rw [Bool.eq_false_iff]
      intro hs
      obtain ⟨c', r', he, _, hc'⟩ := refSym_head hs
      simp only [List.cons.injEq] at he
      rw [← he.1] at hc'; exact hc' rfl
    have h2 : refQuoted (34 :: (mid ++ [34])) = true := by
      have hlen : (34 :: (mid ++ [34]) : List UInt8).length = mid.length + 2 := by simp
      have hd : ((34 :: (mid ++ [34]) : List UInt8).drop 1).take (mid.length + 2 - 2) = mid := by simp
      have hlst : (34 :: (mid ++ [34]) : List UInt8)[mid.length + 2 - 1]?.getD 0 = 34 := by simp
      unfold refQuoted
      rw [hlen, hd, hlst, hall]
      simp; omega
    unfold refKind
    rw [h1, h2]
    simp [tokText]
  · have hm := firstPre_mem x symbols h0
    have : ∀ s ∈ symbols, refSym s = true := by decide
    unfold refKind
    rw [show firstPre x symbols = symLen x from rfl] at hm
    rw [this _ hm]
    rfl
/-- What a law that goes along the tokens meets at token i, behind the end of the last one. -/
theorem cover_step {s : List UInt8} {ts : List Tok} {o i : Nat} (ho : o ≤ s.length) (h : scan (s.drop o) o = (ts.drop i, none)) (hi : i < ts.length) :
    ∃ g n, 0 < n ∧ ts[i].at_ = o + g ∧ o + g + n ≤ s.length ∧ gapLen false ((s.take (o + g)).drop o) = ((s.take (o + g)).drop o).length ∧
      srcP ts[i].kind ts[i].text = (s.take (o + g + n)).drop (o + g) ∧ ((s.take (o + g + n)).drop (o + g)).length = n ∧
      refKind ((s.take (o + g + n)).drop (o + g)) = (ts[i].kind, ts[i].text) ∧ scan (s.drop (o + g + n)) (o + g + n) = (ts.drop (i + 1), none) := by
  rw [List.drop_eq_getElem_cons hi] at h
  rcases scan_cases (s.drop o) o with ⟨_, hs⟩ | ⟨_, _, hs⟩ | ⟨k, m, h2, h3, h4, h5, hs⟩
  · rw [hs] at h; cases h
  · rw [hs] at h; cases h
  · rw [hs] at h
    simp only [Prod.mk.injEq, List.cons.injEq] at h
    obtain ⟨⟨ht, hr⟩, he⟩ := h
    have hgt := gapLen_take false (s.drop o) (gapLen false (s.drop o))
    generalize gapLen false (s.drop o) = g at *
    simp only [List.length_drop] at h2 h4
    simp only [List.drop_drop] at h5 ht hr he
    have hdt : (s.take (o + g + m)).drop (o + g) = (s.drop (o + g)).take m := by
      rw [List.drop_take]; congr 1; omega
    have hdt0 : (s.take (o + g)).drop o = (s.drop o).take g := by
      rw [List.drop_take]; congr 1; omega
    refine ⟨g, m, h3, by rw [← ht], by omega, ?_, ?_, by rw [hdt]; simp; omega, ?_, ?_⟩
    · rw [hdt0, hgt]; simp; omega
    · rw [hdt, ← ht]; exact src_piece h5
    · rw [hdt, ← ht]; exact refKind_piece h5
    · rw [← Nat.add_assoc] at hr he
      rw [← hr, ← he]
theorem cover_end {s : List UInt8} {ts : List Tok} {o : Nat} (h : scan (s.drop o) o = (ts.drop ts.length, none)) : gapLen false (s.drop o) = (s.drop o).length := by
  rw [List.drop_length] at h
  rcases scan_cases (s.drop o) o with ⟨h1, hs⟩ | ⟨_, _, hs⟩ | ⟨k, m, h2, h3, h4, h5, hs⟩
  · exact h1
  · rw [hs] at h; simp at h
  · rw [hs] at h; simp at h
theorem cover_at {s : List UInt8} {ts : List Tok} {o i : Nat} (ho : o ≤ s.length) (h : scan (s.drop o) o = (ts.drop i, none)) (hi : i < ts.length) :
    ∃ n, 0 < n ∧ o ≤ ts[i].at_ ∧ ts[i].at_ + n ≤ s.length ∧ gapLen false ((s.take ts[i].at_).drop o) = ((s.take ts[i].at_).drop o).length ∧
      srcP ts[i].kind ts[i].text = (s.take (ts[i].at_ + n)).drop ts[i].at_ ∧ ((s.take (ts[i].at_ + n)).drop ts[i].at_).length = n ∧
      refKind ((s.take (ts[i].at_ + n)).drop ts[i].at_) = (ts[i].kind, ts[i].text) ∧ scan (s.drop (ts[i].at_ + n)) (ts[i].at_ + n) = (ts.drop (i + 1), none) := by
  obtain ⟨g, n, h0, ha, hl, hg, hp, hn, hk, hs⟩ := cover_step ho h hi
  rw [← ha] at hl hg hp hn hk hs
  exact ⟨n, h0, by omega, hl, hg, hp, hn, hk, hs⟩
end Go.Proofs.YtbeodifgekhhpaaDoor.Lex
