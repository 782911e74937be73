/-
  Plain laws: what stands beside tokens, and what they consist of. No program in sight.
-/
import Derived.Test.YtbeodifgekhhpaaDoorLexScan
namespace Go.Proofs.YtbeodifgekhhpaaDoor.Lex

def isWs (c : UInt8) : Bool := c.toNat = 32 ∨ c.toNat = 9 ∨ c.toNat = 10 ∨ c.toNat = 13
theorem gap_last (b : Bool) (r : List UInt8) (h0 : 0 < gapLen b r) (h1 : gapLen b r < r.length) : isWs (r[gapLen b r - 1]'(by omega)) = true := by
  induction r generalizing b with
  | nil => simp at h1
  | cons c r ih =>
    have step : ∀ b', gapLen b (c :: r) = gapLen b' r + 1 → (isWs c = true ∨ b' = true) → isWs ((c :: r)[gapLen b (c :: r) - 1]'(by omega)) = true := by
      intro b' e hc
      rw [e] at h1
      simp only [List.length_cons, Nat.add_lt_add_iff_right] at h1
      rcases Nat.eq_zero_or_pos (gapLen b' r) with hz | hp
      · have : (c :: r)[gapLen b (c :: r) - 1]'(by omega) = c := by simp [e, hz]
        rw [this]
        rcases hc with hc | hc
        · exact hc
        · subst hc
          cases r with
          | nil => simp at h1
          | cons d r => simp only [gapLen] at hz; split at hz <;> omega
      · have := ih b' hp h1
        have e2 : (c :: r)[gapLen b (c :: r) - 1]'(by omega) = r[gapLen b' r - 1]'(by omega) := by
          simp only [e, Nat.add_sub_cancel]
          rw [List.getElem_cons]
          rw [dif_neg (by omega)]
        rw [e2]; exact this
    cases b
    · simp only [gapLen] at h0
      split at h0
      · rename_i hw
        exact step false (by simp [gapLen, hw]) (.inl (by simpa [isWs] using hw))
      · rename_i hw
        split at h0
        · rename_i hp
          exact step true (by simp [gapLen, hp]) (.inr rfl)
        · omega
    · by_cases hn : c.toNat = 10
      · exact step false (by simp [gapLen, hn]) (.inl (by simp [isWs, hn]))
      · exact step true (by simp [gapLen, hn]) (.inr rfl)
theorem isWord_ws {c : UInt8} (h : isWs c = true) : isWord c = false := by
  simp only [isWs, decide_eq_true_eq] at h
  rcases h with h | h | h | h <;> simp [isWord, isDig, h]
theorem runLen_stop (x : List UInt8) (h : runLen x < x.length) : isWord x[runLen x] = false := by
  induction x with
  | nil => simp at h
  | cons c r ih =>
    by_cases hc : isWord c = true
    · have e : runLen (c :: r) = runLen r + 1 := by simp [runLen, hc]
      rw [e] at h
      have := ih (by simpa using h)
      simp only [e, List.getElem_cons_succ]
      exact this
    · have e : runLen (c :: r) = 0 := by simp [runLen, hc]
      simp only [e, List.getElem_cons_zero]
      simpa using hc
theorem runLen_head {c : UInt8} {r : List UInt8} (h : 0 < runLen (c :: r)) : isWord c = true := by
  simp only [runLen] at h
  split at h
  · assumption
  · omega
theorem run_all (x : List UInt8) : (x.take (runLen x)).all isWord = true := by
  induction x with
  | nil => rfl
  | cons c r ih =>
    by_cases hc : isWord c = true
    · simp [runLen, hc]; simpa using ih
    · simp [runLen, hc]
theorem run_digits (x : List UInt8) : (x.take (runLen x)).all isDig = decide (runDig x = runLen x) := by
  induction x with
  | nil => rfl
  | cons c r ih =>
    have hle := runDig_le r
    by_cases hc : isWord c = true
    · by_cases hd : isDig c = true
      · simp only [runLen, runDig, hc, hd, if_true, List.take_succ_cons, List.all_cons, Bool.true_and, ih]
        rw [Bool.eq_iff_iff]; simp
      · simp only [Bool.not_eq_true] at hd
        simp only [runLen, runDig, hc, hd, if_true, List.take_succ_cons, List.all_cons, Bool.false_and]
        rw [Bool.eq_iff_iff]; simp; omega
    · simp [runLen, runDig, hc]
theorem firstPre_mem (x : List UInt8) (ss : List (List UInt8)) (h : 0 < firstPre x ss) : x.take (firstPre x ss) ∈ ss := by
  induction ss with
  | nil => simp [firstPre] at h
  | cons s r ih =>
    simp only [firstPre] at h ⊢
    split at h
    · rename_i hp
      rw [if_pos hp]
      have := List.prefix_iff_eq_take.1 (List.isPrefixOf_iff_prefix.1 hp)
      rw [← this]; simp
    · rename_i hp
      rw [if_neg hp]
      exact List.mem_cons_of_mem _ (ih h)
theorem sym_last (x : List UInt8) (h : 0 < symLen x) (hl : symLen x - 1 < x.length) : isWord x[symLen x - 1] = false := by
  have hm := firstPre_mem x symbols h
  have e : x[symLen x - 1] = (x.take (symLen x))[symLen x - 1]'(by have := symLen_le x; simp; omega) := by simp
  rw [e]
  have key : ∀ s ∈ symbols, ∀ h : s.length - 1 < s.length, isWord s[s.length - 1] = false := by decide
  have hlen : (x.take (symLen x)).length = symLen x := by have := symLen_le x; simp; omega
  have := key _ hm (by show (x.take (symLen x)).length - 1 < (x.take (symLen x)).length; omega)
  simp only [symLen] at hlen ⊢
  simpa [hlen] using this
theorem txt_last (i : Nat) (r : List UInt8) (h : 0 < txtGo i r) : ∃ hl : txtGo i r - i - 1 < r.length, r[txtGo i r - i - 1].toNat = 34 := by
  induction r generalizing i with
  | nil => simp [txtGo] at h
  | cons c r ih =>
    simp only [txtGo] at h ⊢
    split at h
    · omega
    · rename_i h1
      simp only [if_neg h1]
      split at h
      · rename_i h2
        simp only [if_pos h2]
        have : i + 1 - i - 1 = 0 := by omega
        simp only [this]
        exact ⟨by simp, h2⟩
      · rename_i h2
        simp only [if_neg h2]
        split at h
        · omega
        · rename_i h3
          simp only [if_neg h3]
          obtain ⟨hl, hq⟩ := ih (i + 1) h
          have hle := txtGo_le (i + 1) r
          have e : txtGo (i + 1) r - i - 1 = (txtGo (i + 1) r - (i + 1) - 1) + 1 := by omega
          refine ⟨by simp; omega, ?_⟩
          simp only [e, List.getElem_cons_succ]
          exact hq
theorem text_last (x : List UInt8) (h : 0 < textLen x) (hl : textLen x - 1 < x.length) : x[textLen x - 1].toNat = 34 := by
  cases x with
  | nil => simp [textLen] at h
  | cons c r =>
    simp only [textLen] at h
    split at h
    · rename_i hc
      obtain ⟨hl2, hq⟩ := txt_last 1 r h
      have hle := txtGo_le 1 r
      have e : textLen (c :: r) - 1 = (txtGo 1 r - 1 - 1) + 1 := by simp [textLen, hc]; omega
      simp only [e, List.getElem_cons_succ]
      exact hq
    · omega
theorem isWord_quote {c : UInt8} (h : c.toNat = 34) : isWord c = false := by simp [isWord, isDig, h]

/-- What stands beside a token, and what it consists of. -/
structure Beside (s : List UInt8) (t : Tok) : Prop where
  fin : t.at_ + srcLen t ≤ s.length
  dash : t.kind = 3 → t.text = [45] → ∀ h : t.at_ + srcLen t < s.length, s[t.at_ + srcLen t].toNat ≠ 62
  before : (t.kind = 1 ∨ t.kind = 2) → 0 < t.at_ → ∀ h : t.at_ - 1 < s.length, isWord s[t.at_ - 1] = false
  after : (t.kind = 1 ∨ t.kind = 2) → ∀ h : t.at_ + srcLen t < s.length, isWord s[t.at_ + srcLen t] = false
  digits : (t.kind = 1 ∨ t.kind = 2) → t.text.all isDig = decide (t.kind = 2)
theorem beside_scan (s : List UInt8) (o : Nat) (ho : o ≤ s.length) (hbd : 0 < o → ∀ h : o < s.length, isWord s[o] = true → isWord (s[o - 1]'(by omega)) = false) :
    ∀ t ∈ (scan (s.drop o) o).1, Beside s t := by
  generalize hn : s.length - o = n
  induction n using Nat.strongRecOn generalizing o with
  | _ n ih =>
    subst hn
    rcases scan_cases (s.drop o) o with ⟨h, hs⟩ | ⟨h, ht, hs⟩ | ⟨k, m, h, h0, h1, ht, hs⟩
    · rw [hs]; simp
    · rw [hs]; simp
    · rw [hs]
      obtain ⟨_, _, hk⟩ := tokLen_bound ht
      have hsl := srcLen_tok (o := o + gapLen false (s.drop o)) ht
      simp only [List.length_drop] at h h1
      generalize hg : gapLen false (s.drop o) = g at *
      simp only [List.drop_drop] at ht hk hsl ⊢
      have hj : o + g < s.length := by omega
      have hx : s.drop (o + g) = s[o + g] :: s.drop (o + g + 1) := List.drop_eq_getElem_cons hj
      have hat : ∀ i (hi : i < (s.drop (o + g)).length), (s.drop (o + g))[i] = s[o + g + i]'(by simp at hi; omega) := fun i hi => by simp
      have hlen : (s.drop (o + g)).length = s.length - (o + g) := by simp
      have hbefore : isWord s[o + g] = true → 0 < o + g → isWord (s[o + g - 1]'(by omega)) = false := by
        intro hw hpos
        rcases Nat.eq_zero_or_pos g with hg0 | hgp
        · subst hg0
          exact hbd (by omega) hj hw
        · have := gap_last false (s.drop o) (by omega) (by simp; omega)
          simp only [List.getElem_drop, hg] at this
          have := isWord_ws this
          have e : o + (g - 1) = o + g - 1 := by omega
          simpa [e] using this
      have hrun : (k = 1 ∨ k = 2) → runLen (s.drop (o + g)) = m ∧ (k = 2 ↔ runDig (s.drop (o + g)) = runLen (s.drop (o + g))) := by
        intro hk12
        rcases hk with ⟨rfl, rfl⟩ | ⟨rfl, rfl, a⟩ | ⟨rfl, _⟩ | ⟨rfl, _⟩
        · refine ⟨(runLen_of_num h0).symm, fun _ => ?_, fun _ => rfl⟩
          have h0' := h0
          unfold numLen at h0'
          split at h0'
          · omega
          · rename_i hh; omega
        · refine ⟨(runLen_of_name h0).symm, fun hh => absurd hh (by omega), fun hh => ?_⟩
          have h0' := h0
          unfold nameLen at h0'
          split at h0'
          · omega
          · rename_i hh'; exact absurd (Or.inl hh) hh'
        · omega
        · omega
      have hafter : (k = 1 ∨ k = 2) → ∀ hf : o + g + m < s.length, isWord s[o + g + m] = false := by
        intro hk12 hf
        obtain ⟨hr, _⟩ := hrun hk12
        have := runLen_stop (s.drop (o + g)) (by rw [hr, hlen]; omega)
        rw [hat] at this
        simpa [hr] using this
      have hfst : (k = 1 ∨ k = 2) → isWord s[o + g] = true := by
        intro hk12
        obtain ⟨hr, _⟩ := hrun hk12
        rw [hx] at hr
        exact runLen_head (r := s.drop (o + g + 1)) (by rw [hr]; exact h0)
      intro t ht'
      simp only [List.mem_cons] at ht'
      rcases ht' with rfl | ht'
      · refine ⟨by rw [hsl]; simp only; omega, ?_, ?_, ?_, ?_⟩
        · intro hk3 htx hf hc
          simp only at hk3
          subst hk3
          rw [hsl] at hf
          simp only [hsl] at hc
          have hm1 : m = 1 := by
            have := congrArg List.length htx
            simp [tokText] at this
            omega
          subst hm1
          rcases hk with ⟨hh, _⟩ | ⟨hh, _⟩ | ⟨hh, _⟩ | ⟨_, hsy, _⟩
          · omega
          · omega
          · omega
          · simp only at hf
            have hx2 : s.drop (o + g + 1) = s[o + g + 1] :: s.drop (o + g + 1 + 1) := List.drop_eq_getElem_cons hf
            have h45 : s[o + g] = 45 := by
              have : (s.drop (o + g)).take 1 = [45] := by simpa [tokText] using htx
              rw [hx] at this
              simp only [List.take_succ_cons, List.take_zero, List.cons.injEq] at this
              exact this.1
            have h62 : s[o + g + 1] = 62 := UInt8.toNat_inj.1 hc
            rw [hx, hx2, h45, h62] at hsy
            simp [symLen, symbols, firstPre, List.isPrefixOf] at hsy
        · intro hk12 hpos hf
          exact hbefore (hfst hk12) hpos
        · intro hk12 hf
          simp only [hsl] at hf ⊢
          exact hafter hk12 hf
        · intro hk12
          simp only at hk12 ⊢
          obtain ⟨hr, hd⟩ := hrun hk12
          have e : tokText k ((s.drop (o + g)).take m) = (s.drop (o + g)).take (runLen (s.drop (o + g))) := by
            unfold tokText; rw [if_neg (by omega), hr]
          rw [e, run_digits, Bool.eq_iff_iff]
          simp [hd]
      · have hd2 : (s.drop o).drop (g + m) = s.drop (o + g + m) := by rw [List.drop_drop, Nat.add_assoc]
        rw [← Nat.add_assoc] at ht'
        refine ih (s.length - (o + g + m)) (by omega) (o + g + m) (by omega) ?_ rfl t ht'
        intro _ hf hw
        by_cases hk12 : k = 1 ∨ k = 2
        · rw [hafter hk12 hf] at hw; cases hw
        · rcases hk with ⟨hh, _⟩ | ⟨hh, _⟩ | ⟨_, htx, _⟩ | ⟨_, hsy, _⟩
          · omega
          · omega
          · have := text_last (s.drop (o + g)) (by omega) (by rw [hlen]; omega)
            rw [hat] at this
            apply isWord_quote
            have e : o + g + m - 1 = o + g + (textLen (s.drop (o + g)) - 1) := by omega
            simpa [e] using this
          · have := sym_last (s.drop (o + g)) (by omega) (by rw [hlen]; omega)
            rw [hat] at this
            have e : o + g + m - 1 = o + g + (symLen (s.drop (o + g)) - 1) := by omega
            simpa [e] using this
theorem beside {s : List UInt8} {ts : List Tok} (h : lexF s = .ok ts) (i : Nat) (hi : i < ts.length) : Beside s ts[i] := by
  obtain ⟨_, hs, _⟩ := lexF_ok h
  have := beside_scan s 0 (by omega) (fun h => absurd h (by omega))
  simp only [List.drop_zero, hs] at this
  exact this _ (List.getElem_mem hi)
end Go.Proofs.YtbeodifgekhhpaaDoor.Lex
