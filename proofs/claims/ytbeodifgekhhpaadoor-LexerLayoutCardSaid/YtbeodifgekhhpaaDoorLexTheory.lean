/-
  Plain laws of the lexer's functions: what a text's tokens are, and how they change with the text. No program in sight.
-/
import Derived.Test.YtbeodifgekhhpaaDoorLexPlain
namespace Go.Proofs.YtbeodifgekhhpaaDoor.Lex

/-! ### Gaps -/
theorem gapLen_nl (b : Bool) (x y : List UInt8) : gapLen b (x ++ 10 :: y) = if gapLen b x = x.length then x.length + 1 + gapLen false y else gapLen b x := by
  induction x generalizing b with
  | nil => cases b <;> simp [gapLen, Nat.add_comm]
  | cons c r ih =>
    have it := ih true
    have jf := ih false
    cases b
    · simp only [List.cons_append, gapLen, List.length_cons]
      split
      · rw [jf]; split <;> split <;> omega
      · split
        · rw [it]; split <;> split <;> omega
        · simp
    · simp only [List.cons_append, gapLen, List.length_cons]
      split
      · rw [jf]; split <;> split <;> omega
      · rw [it]; split <;> split <;> omega
theorem gapLen_take (b : Bool) (x : List UInt8) (p : Nat) : gapLen b (x.take p) = min p (gapLen b x) := by
  induction x generalizing b p with
  | nil => cases b <;> simp [gapLen]
  | cons c r ih =>
    cases p with
    | zero => cases b <;> simp [gapLen]
    | succ p =>
      have it := ih true p
      have jf := ih false p
      cases b <;> simp only [List.take_succ_cons, gapLen]
      · split
        · rw [jf]; omega
        · split
          · rw [it]; omega
          · omega
      · split
        · rw [jf]; omega
        · rw [it]; omega

/-! ### Runs -/
theorem isWord_nl : isWord 10 = false := by decide
theorem runLen_nl (x y : List UInt8) : runLen (x ++ 10 :: y) = runLen x := by
  induction x with
  | nil => simp [runLen, isWord_nl]
  | cons c r ih => simp only [List.cons_append, runLen, ih]
theorem runDig_nl (x y : List UInt8) : runDig (x ++ 10 :: y) = runDig x := by
  induction x with
  | nil => simp [runDig, isWord_nl]
  | cons c r ih => simp only [List.cons_append, runDig, ih]
theorem runLen_take (x : List UInt8) (q : Nat) : runLen (x.take q) = min q (runLen x) := by
  induction x generalizing q with
  | nil => simp [runLen]
  | cons c r ih =>
    cases q with
    | zero => simp [runLen]
    | succ q =>
      simp only [List.take_succ_cons, runLen, ih]
      split <;> omega
theorem runDig_take (x : List UInt8) (q : Nat) (h : runLen x ≤ q) : runDig (x.take q) = runDig x := by
  induction x generalizing q with
  | nil => simp [runDig]
  | cons c r ih =>
    simp only [runLen] at h
    cases q with
    | zero =>
      split at h
      · omega
      · rename_i hc
        simp [runDig, hc]
    | succ q =>
      simp only [List.take_succ_cons, runDig]
      split at h
      · rename_i hc
        rw [if_pos hc, if_pos hc, ih q (by omega)]
      · rename_i hc
        rw [if_neg hc, if_neg hc]

/-! ### Texts -/
theorem txtGo_nl (i : Nat) (x y : List UInt8) : txtGo i (x ++ 10 :: y) = txtGo i x := by
  induction x generalizing i with
  | nil => simp [txtGo]
  | cons c r ih => simp only [List.cons_append, txtGo, ih]
theorem txtGo_take (i : Nat) (x : List UInt8) (q : Nat) (h0 : 0 < txtGo i x) (h : txtGo i x ≤ i + q) : txtGo i (x.take q) = txtGo i x := by
  induction x generalizing i q with
  | nil => simp
  | cons c r ih =>
    simp only [txtGo] at h0 h
    cases q with
    | zero =>
      split at h0
      · omega
      · rename_i h1
        rw [if_neg h1] at h
        split at h0
        · rename_i h2; rw [if_pos h2] at h; omega
        · rename_i h2
          rw [if_neg h2] at h
          split at h0
          · omega
          · rename_i h3
            rw [if_neg h3] at h
            rcases txtGo_le (i + 1) r with h4 | h4 <;> omega
    | succ q =>
      simp only [List.take_succ_cons, txtGo]
      split
      · rfl
      · rename_i h1
        rw [if_neg h1] at h0 h
        split
        · rfl
        · rename_i h2
          rw [if_neg h2] at h0 h
          split
          · rfl
          · rename_i h3
            rw [if_neg h3] at h0 h
            exact ih (i + 1) q h0 (by omega)

/-! ### Symbols -/
theorem isPrefixOf_nl (s x y : List UInt8) (h : (10 : UInt8) ∉ s) : s.isPrefixOf (x ++ 10 :: y) = s.isPrefixOf x := by
  induction s generalizing x with
  | nil => simp [List.isPrefixOf]
  | cons a s ih =>
    simp only [List.mem_cons, not_or] at h
    cases x with
    | nil =>
      have : (a == 10) = false := by simpa using fun e => h.1 e.symm
      simp [List.isPrefixOf, this]
    | cons c r => simp only [List.cons_append, List.isPrefixOf, ih r h.2]
theorem firstPre_nl (ss : List (List UInt8)) (x y : List UInt8) (h : ∀ s ∈ ss, (10 : UInt8) ∉ s) : firstPre (x ++ 10 :: y) ss = firstPre x ss := by
  induction ss with
  | nil => rfl
  | cons s r ih =>
    simp only [firstPre, isPrefixOf_nl s x y (h s (by simp)), ih (fun t ht => h t (by simp [ht]))]
theorem firstPre_take (ss : List (List UInt8)) (x : List UInt8) (q : Nat) (h : firstPre x ss ≤ q) (h0 : 0 < firstPre x ss) : firstPre (x.take q) ss = firstPre x ss := by
  induction ss with
  | nil => rfl
  | cons s r ih =>
    simp only [firstPre] at h h0 ⊢
    split at h
    · rename_i hp
      have : s.isPrefixOf (x.take q) = true := by
        rw [List.isPrefixOf_iff_prefix] at hp ⊢
        exact List.prefix_take_iff.2 ⟨hp, h⟩
      rw [if_pos this, if_pos hp]
    · rename_i hp
      have : ¬ s.isPrefixOf (x.take q) = true := fun he => hp (by
        rw [List.isPrefixOf_iff_prefix] at he ⊢
        exact he.trans (List.take_prefix _ _))
      rw [if_neg this, if_neg hp]
      rw [if_neg hp] at h0
      exact ih h h0

/-! ### Tokens -/
theorem tokLen_nl (c : UInt8) (x y : List UInt8) : tokLen (c :: x ++ 10 :: y) = tokLen (c :: x) := by
  have h1 : numLen (c :: x ++ 10 :: y) = numLen (c :: x) := by unfold numLen; rw [runLen_nl, runDig_nl]
  have h2 : nameLen (c :: x ++ 10 :: y) = nameLen (c :: x) := by unfold nameLen; rw [runLen_nl, runDig_nl]; simp
  have h3 : textLen (c :: x ++ 10 :: y) = textLen (c :: x) := by simp only [List.cons_append, textLen, txtGo_nl]
  have h4 : symLen (c :: x ++ 10 :: y) = symLen (c :: x) := firstPre_nl _ _ _ (by decide)
  simp only [tokLen, h1, h2, h3, h4]
theorem tokLen_bound {x : List UInt8} {k m : Nat} (h : tokLen x = some (k, m)) : 0 < m ∧ m ≤ x.length ∧ (k = 2 ∧ m = numLen x ∨ k = 1 ∧ m = nameLen x ∧ numLen x = 0 ∨ k = 4 ∧ m = textLen x ∧ numLen x = 0 ∧ nameLen x = 0 ∨ k = 3 ∧ m = symLen x ∧ numLen x = 0 ∧ nameLen x = 0 ∧ textLen x = 0) := by
  have a1 := numLen_le x
  have a2 := nameLen_le x
  have a3 := (textLen_le x).1
  have a4 := symLen_le x
  unfold tokLen at h
  split at h
  · cases h; exact ⟨by assumption, a1, .inl ⟨rfl, rfl⟩⟩
  · split at h
    · cases h; exact ⟨by assumption, a2, .inr (.inl ⟨rfl, rfl, by omega⟩)⟩
    · split at h
      · cases h; exact ⟨by assumption, a3, .inr (.inr (.inl ⟨rfl, rfl, by omega, by omega⟩))⟩
      · split at h
        · cases h; exact ⟨by assumption, a4, .inr (.inr (.inr ⟨rfl, rfl, by omega, by omega, by omega⟩))⟩
        · cases h
theorem numLen_take {x : List UInt8} {q : Nat} (h : runLen x ≤ q) : numLen (x.take q) = numLen x := by
  unfold numLen; rw [runLen_take, runDig_take x q h, Nat.min_eq_right h]
theorem nameLen_take {x : List UInt8} {q : Nat} (h : runLen x ≤ q) (h0 : 0 < q) : nameLen (x.take q) = nameLen x := by
  unfold nameLen; rw [runLen_take, runDig_take x q h, Nat.min_eq_right h]
  cases x with
  | nil => simp
  | cons c r =>
    cases q with
    | zero => omega
    | succ q => simp
theorem runLen_of_text {x : List UInt8} (h : 0 < textLen x) : runLen x = 0 := by
  cases x with
  | nil => rfl
  | cons c r =>
    simp only [textLen] at h
    split at h
    · rename_i hc
      have : isWord c = false := by unfold isWord isDig; simp [hc]
      simp [runLen, this]
    · omega
theorem runLen_of_sym {x : List UInt8} (h : 0 < symLen x) : runLen x = 0 := by
  cases x with
  | nil => rfl
  | cons c r =>
    have key : ∀ ss : List (List UInt8), (∀ s ∈ ss, ∃ a t, s = a :: t ∧ isWord a = false) → 0 < firstPre (c :: r) ss → isWord c = false := by
      intro ss
      induction ss with
      | nil => intro _ h; simp [firstPre] at h
      | cons s ss ih =>
        intro hs h
        simp only [firstPre] at h
        split at h
        · rename_i hp
          obtain ⟨a, t, rfl, ha⟩ := hs s (by simp)
          simp only [List.isPrefixOf, Bool.and_eq_true, beq_iff_eq] at hp
          rw [← hp.1]; exact ha
        · exact ih (fun s hs' => hs s (by simp [hs'])) h
    have : isWord c = false := key symbols (by
      intro s hs
      simp only [symbols, List.mem_cons, List.not_mem_nil, or_false] at hs
      rcases hs with rfl | rfl | rfl | rfl | rfl | rfl | rfl | rfl | rfl | rfl | rfl | rfl | rfl <;> exact ⟨_, _, rfl, by decide⟩) h
    simp [runLen, this]
theorem textLen_take {x : List UInt8} {q : Nat} (h0 : 0 < textLen x) (h : textLen x ≤ q) : textLen (x.take q) = textLen x := by
  cases x with
  | nil => simp
  | cons c r =>
    cases q with
    | zero => omega
    | succ q =>
      simp only [textLen, List.take_succ_cons] at h0 h ⊢
      split
      · rename_i hc
        rw [if_pos hc] at h0 h
        exact txtGo_take 1 r q h0 (by omega)
      · rfl
theorem textLen_of_run {x : List UInt8} (h : 0 < runLen x) : textLen x = 0 := by
  rcases Nat.eq_zero_or_pos (textLen x) with h1 | h1
  · exact h1
  · have := runLen_of_text h1; omega
theorem textLen_of_sym {x : List UInt8} {q : Nat} (h : 0 < symLen x) (h0 : textLen x = 0) : textLen (x.take q) = 0 := by
  cases x with
  | nil => simpa using h0
  | cons c r =>
    cases q with
    | zero => rfl
    | succ q =>
      simp only [List.take_succ_cons, textLen] at h0 ⊢
      split
      · rename_i hc
        exfalso
        have key : ∀ ss : List (List UInt8), (∀ s ∈ ss, ∃ a t, s = a :: t ∧ a.toNat ≠ 34) → 0 < firstPre (c :: r) ss → c.toNat ≠ 34 := by
          intro ss
          induction ss with
          | nil => intro _ h; simp [firstPre] at h
          | cons s ss ih =>
            intro hs h
            simp only [firstPre] at h
            split at h
            · rename_i hp
              obtain ⟨a, t, rfl, ha⟩ := hs s (by simp)
              simp only [List.isPrefixOf, Bool.and_eq_true, beq_iff_eq] at hp
              rw [← hp.1]; exact ha
            · exact ih (fun s hs' => hs s (by simp [hs'])) h
        exact key symbols (by
          intro s hs
          simp only [symbols, List.mem_cons, List.not_mem_nil, or_false] at hs
          rcases hs with rfl | rfl | rfl | rfl | rfl | rfl | rfl | rfl | rfl | rfl | rfl | rfl | rfl <;> exact ⟨_, _, rfl, by decide⟩) h hc
      · rfl
theorem runLen_of_num {x : List UInt8} (h : 0 < numLen x) : numLen x = runLen x := by
  unfold numLen at h ⊢; split at h
  · omega
  · rename_i hh; rw [if_neg hh]
theorem runLen_of_name {x : List UInt8} (h : 0 < nameLen x) : nameLen x = runLen x := by
  unfold nameLen at h ⊢; split at h
  · omega
  · rename_i hh; rw [if_neg hh]
theorem tokLen_take {x : List UInt8} {k m q : Nat} (h : tokLen x = some (k, m)) (hq : m ≤ q) : tokLen (x.take q) = some (k, m) := by
  obtain ⟨h0, _, h1⟩ := tokLen_bound h
  rcases h1 with ⟨rfl, rfl⟩ | ⟨rfl, rfl, a⟩ | ⟨rfl, rfl, a, b⟩ | ⟨rfl, rfl, a, b, c⟩
  · have hr := runLen_of_num h0
    have e := numLen_take (x := x) (q := q) (by omega)
    unfold tokLen; rw [e, if_pos h0]
  · have hr := runLen_of_name h0
    have e := numLen_take (x := x) (q := q) (by omega)
    have e2 := nameLen_take (x := x) (q := q) (by omega) (by omega)
    unfold tokLen; rw [e, e2, a, if_neg (by omega), if_pos h0]
  · have hr := runLen_of_text h0
    have e := numLen_take (x := x) (q := q) (by omega)
    have e2 := nameLen_take (x := x) (q := q) (by omega) (by omega)
    have e3 := textLen_take h0 hq
    unfold tokLen; rw [e, e2, e3, a, b, if_neg (by omega), if_neg (by omega), if_pos h0]
  · have hr := runLen_of_sym h0
    have e := numLen_take (x := x) (q := q) (by omega)
    have e2 := nameLen_take (x := x) (q := q) (by omega) (by omega)
    have e3 := textLen_of_sym (q := q) h0 c
    have e4 : symLen (x.take q) = symLen x := firstPre_take _ _ _ hq h0
    unfold tokLen; rw [e, e2, e3, e4, a, b, if_neg (by omega), if_neg (by omega), if_neg (by omega), if_pos h0]

end Go.Proofs.YtbeodifgekhhpaaDoor.Lex
