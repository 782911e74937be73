/-
  The tokens of a text, without the limit of their number, by offsets; plain laws of them. No program in sight.
-/
import Derived.Test.YtbeodifgekhhpaaDoorLexTheory
namespace Go.Proofs.YtbeodifgekhhpaaDoor.Lex

def scanS : Nat → List UInt8 → Nat → List Tok × Option Nat
  | 0, _, _ => ([], none)
  | f + 1, r, o =>
    if gapLen false r = r.length then ([], none)
    else match tokLen (r.drop (gapLen false r)) with
      | none => ([], some (o + gapLen false r))
      | some (k, m) =>
        (⟨k, tokText k ((r.drop (gapLen false r)).take m), o + gapLen false r⟩ :: (scanS f (r.drop (gapLen false r + m)) (o + gapLen false r + m)).1,
          (scanS f (r.drop (gapLen false r + m)) (o + gapLen false r + m)).2)
theorem scanS_fuel (f f' : Nat) (r : List UInt8) (o : Nat) (h : r.length < f) (h' : r.length < f') : scanS f r o = scanS f' r o := by
  induction f generalizing f' r o with
  | zero => omega
  | succ f ih =>
    cases f' with
    | zero => omega
    | succ f' =>
      simp only [scanS]
      split
      · rfl
      · rename_i hg
        have := gapLen_le false r
        cases ht : tokLen (r.drop (gapLen false r)) with
        | none => rfl
        | some km =>
          obtain ⟨k, m⟩ := km
          obtain ⟨h0, h1, _⟩ := tokLen_bound ht
          simp only [List.length_drop] at h1
          simp only
          rw [ih f' _ _ (by simp; omega) (by simp; omega)]
/-- The tokens of a text that begins at an offset, and the offset of what is no token. -/
def scan (r : List UInt8) (o : Nat) : List Tok × Option Nat := scanS (r.length + 1) r o
theorem scan_end {r : List UInt8} {o : Nat} (h : gapLen false r = r.length) : scan r o = ([], none) := by simp [scan, scanS, h]
theorem scan_bad {r : List UInt8} {o : Nat} (h : gapLen false r ≠ r.length) (ht : tokLen (r.drop (gapLen false r)) = none) : scan r o = ([], some (o + gapLen false r)) := by
  simp [scan, scanS, h, ht]
theorem scan_tok {r : List UInt8} {o k m : Nat} (h : gapLen false r ≠ r.length) (ht : tokLen (r.drop (gapLen false r)) = some (k, m)) :
    scan r o = (⟨k, tokText k ((r.drop (gapLen false r)).take m), o + gapLen false r⟩ :: (scan (r.drop (gapLen false r + m)) (o + gapLen false r + m)).1, (scan (r.drop (gapLen false r + m)) (o + gapLen false r + m)).2) := by
  have hl := gapLen_le false r
  obtain ⟨h0, h1, _⟩ := tokLen_bound ht
  simp only [List.length_drop] at h1
  have e : scanS r.length (r.drop (gapLen false r + m)) (o + gapLen false r + m) = scan (r.drop (gapLen false r + m)) (o + gapLen false r + m) :=
    scanS_fuel _ _ _ _ (by simp; omega) (by simp)
  simp only [scan, scanS] at e ⊢
  rw [if_neg h, ht]
  simp only
  rw [e]
/-- The three ways of a scan. -/
theorem scan_cases (r : List UInt8) (o : Nat) : (gapLen false r = r.length ∧ scan r o = ([], none)) ∨ (gapLen false r < r.length ∧ tokLen (r.drop (gapLen false r)) = none ∧ scan r o = ([], some (o + gapLen false r))) ∨
    ∃ k m, gapLen false r < r.length ∧ 0 < m ∧ gapLen false r + m ≤ r.length ∧ tokLen (r.drop (gapLen false r)) = some (k, m) ∧
      scan r o = (⟨k, tokText k ((r.drop (gapLen false r)).take m), o + gapLen false r⟩ :: (scan (r.drop (gapLen false r + m)) (o + gapLen false r + m)).1, (scan (r.drop (gapLen false r + m)) (o + gapLen false r + m)).2) := by
  have hl := gapLen_le false r
  by_cases h : gapLen false r = r.length
  · exact .inl ⟨h, scan_end h⟩
  · cases ht : tokLen (r.drop (gapLen false r)) with
    | none => exact .inr (.inl ⟨by omega, rfl, scan_bad h ht⟩)
    | some km =>
      obtain ⟨k, m⟩ := km
      obtain ⟨h0, h1, _⟩ := tokLen_bound ht
      simp only [List.length_drop] at h1
      exact .inr (.inr ⟨k, m, by omega, h0, by omega, rfl, scan_tok h ht⟩)

/-- The limit of the number of tokens. -/
def cut : Nat → List Tok → Option Nat → Except (Nat × Nat) (List Tok)
  | _, [], none => .ok []
  | 0, [], some j => .error (2, j)
  | _ + 1, [], some j => .error (30, j)
  | 0, t :: _, _ => .error (2, t.at_)
  | n + 1, t :: ts, e => match cut n ts e with
    | .error x => .error x
    | .ok r => .ok (t :: r)
theorem lexAcc_eq (l : List UInt8) (fuel i : Nat) (acc : List Tok) (hi : i ≤ l.length) (hf : l.length - i < fuel) (ha : acc.length ≤ 3000) :
    lexAcc l fuel i acc = match cut (3000 - acc.length) (scan (l.drop i) i).1 (scan (l.drop i) i).2 with | .error e => .error e | .ok ts => .ok (acc ++ ts) := by
  induction fuel generalizing i acc with
  | zero => omega
  | succ fuel ih =>
    have hg := gapLen_le false (l.drop i)
    simp only [List.length_drop] at hg
    rw [lexAcc]
    have hsk : skipF l i = i + gapLen false (l.drop i) := rfl
    have hdd : ∀ n, (l.drop i).drop n = l.drop (i + n) := fun n => List.drop_drop
    rcases scan_cases (l.drop i) i with ⟨h, hs⟩ | ⟨h, ht, hs⟩ | ⟨k, m, h, h0, h1, ht, hs⟩
    · simp only [List.length_drop] at h
      rw [if_pos (by rw [hsk]; omega), hs]
      simp [cut]
    · simp only [List.length_drop] at h
      rw [if_neg (by rw [hsk]; omega), hs]
      rw [hdd] at ht
      by_cases h3 : acc.length = 3000
      · rw [if_pos h3]; simp [cut, h3, hsk]
      · rw [if_neg h3, hsk, ht]
        obtain ⟨n, hn⟩ : ∃ n, 3000 - acc.length = n + 1 := ⟨3000 - acc.length - 1, by omega⟩
        rw [hn]; simp [cut]
    · simp only [List.length_drop] at h h1
      rw [if_neg (by rw [hsk]; omega), hs]
      rw [hdd] at ht
      by_cases h3 : acc.length = 3000
      · rw [if_pos h3]; simp [cut, h3, hsk]
      · rw [if_neg h3, hsk, ht]
        simp only
        rw [ih _ _ (by omega) (by omega) (by simp; omega)]
        obtain ⟨n, hn⟩ : ∃ n, 3000 - acc.length = n + 1 := ⟨3000 - acc.length - 1, by omega⟩
        rw [hn]
        have hn' : 3000 - (acc ++ [(⟨k, tokText k ((l.drop (i + gapLen false (l.drop i))).take m), i + gapLen false (l.drop i)⟩ : Tok)]).length = n := by simp; omega
        rw [hn', hdd, hdd, ← Nat.add_assoc]
        simp only [cut]
        cases cut n (scan (l.drop (i + gapLen false (l.drop i) + m)) (i + gapLen false (l.drop i) + m)).1 (scan (l.drop (i + gapLen false (l.drop i) + m)) (i + gapLen false (l.drop i) + m)).2 with
        | error e => rfl
        | ok ts => simp
theorem lexF_eq (l : List UInt8) (h : l.length ≤ 8000) : lexF l = cut 3000 (scan l 0).1 (scan l 0).2 := by
  unfold lexF
  rw [if_neg (by omega), lexAcc_eq l _ 0 [] (by omega) (by omega) (by simp)]
  simp only [List.drop_zero, List.length_nil, Nat.sub_zero, List.nil_append]
  cases cut 3000 (scan l 0).1 (scan l 0).2 <;> rfl
theorem cut_ok {n : Nat} {ts r : List Tok} {e : Option Nat} (h : cut n ts e = .ok r) : r = ts ∧ e = none ∧ ts.length ≤ n := by
  induction ts generalizing n r with
  | nil =>
    cases e with
    | none => simp [cut] at h; subst h; simp
    | some j => cases n <;> simp [cut] at h
  | cons t ts ih =>
    cases n with
    | zero => simp [cut] at h
    | succ n =>
      simp only [cut] at h
      cases hc : cut n ts e with
      | error x => rw [hc] at h; simp at h
      | ok r' =>
        rw [hc] at h
        simp at h
        obtain ⟨h1, h2, h3⟩ := ih hc
        subst h h1
        exact ⟨rfl, h2, by simp; omega⟩
theorem cut_of_ok {n : Nat} {ts : List Tok} (h : ts.length ≤ n) : cut n ts none = .ok ts := by
  induction ts generalizing n with
  | nil => cases n <;> rfl
  | cons t ts ih =>
    cases n with
    | zero => simp at h
    | succ n => simp only [cut]; rw [ih (by simpa using h)]
theorem cut_many {n : Nat} {ts : List Tok} {e : Option Nat} {t : Tok} (h : ts[n]? = some t) : cut n ts e = .error (2, t.at_) := by
  induction ts generalizing n with
  | nil => simp at h
  | cons a ts ih =>
    cases n with
    | zero => simp at h; subst h; rfl
    | succ n => simp only [cut]; rw [ih (by simpa using h)]
theorem cut_bad {n : Nat} {ts : List Tok} {j : Nat} (h : ts.length ≤ n) : cut n ts (some j) = .error (if ts.length = n then 2 else 30, j) := by
  induction ts generalizing n with
  | nil =>
    cases n with
    | zero => simp [cut]
    | succ n => simp [cut]
  | cons a ts ih =>
    cases n with
    | zero => simp at h
    | succ n =>
      simp only [cut]; rw [ih (by simpa using h)]
      simp
/-- Where an error is. -/
theorem cut_error {n : Nat} {ts : List Tok} {e : Option Nat} {x : Nat × Nat} (h : cut n ts e = .error x) :
    (∃ t, ts[n]? = some t ∧ x = (2, t.at_)) ∨ (∃ j, ts.length ≤ n ∧ e = some j ∧ x = (if ts.length = n then 2 else 30, j)) := by
  by_cases hl : n < ts.length
  · left
    refine ⟨ts[n], List.getElem?_eq_getElem hl, ?_⟩
    rw [cut_many (List.getElem?_eq_getElem hl)] at h
    cases h; rfl
  · right
    cases e with
    | none => rw [cut_of_ok (by omega)] at h; cases h
    | some j =>
      rw [cut_bad (by omega)] at h
      cases h
      exact ⟨j, by omega, rfl, rfl⟩

/-! ### Where tokens lie -/
theorem scan_pos (r : List UInt8) (o : Nat) : (∀ t ∈ (scan r o).1, o ≤ t.at_ ∧ t.at_ < o + r.length) ∧ (∀ j, (scan r o).2 = some j → o ≤ j ∧ j < o + r.length) := by
  generalize hn : r.length = n
  induction n using Nat.strongRecOn generalizing r o with
  | _ n ih =>
    subst hn
    rcases scan_cases r o with ⟨_, hs⟩ | ⟨h, ht, hs⟩ | ⟨k, m, h, h0, h1, ht, hs⟩
    · rw [hs]; simp
    · rw [hs]; simp; omega
    · rw [hs]
      obtain ⟨i1, i2⟩ := ih (r.drop (gapLen false r + m)).length (by simp; omega) (r.drop (gapLen false r + m)) (o + gapLen false r + m) rfl
      simp only [List.length_drop] at i1 i2
      constructor
      · intro t ht'
        simp only [List.mem_cons] at ht'
        rcases ht' with rfl | ht'
        · simp; omega
        · have := i1 t ht'; omega
      · intro j hj
        have := i2 j hj; omega
theorem scan_shift (r : List UInt8) (o d : Nat) : scan r (o + d) = ((scan r o).1.map (fun t => ⟨t.kind, t.text, t.at_ + d⟩), (scan r o).2.map (· + d)) := by
  generalize hn : r.length = n
  induction n using Nat.strongRecOn generalizing r o with
  | _ n ih =>
    subst hn
    rcases scan_cases r o with ⟨h, hs⟩ | ⟨h, ht, hs⟩ | ⟨k, m, h, h0, h1, ht, hs⟩
    · rw [hs, scan_end h]; simp
    · rw [hs, scan_bad (by omega) ht]; simp; omega
    · rw [hs, scan_tok (by omega) ht]
      have := ih (r.drop (gapLen false r + m)).length (by simp; omega) (r.drop (gapLen false r + m)) (o + gapLen false r + m) rfl
      rw [show o + gapLen false r + m + d = o + d + gapLen false r + m by omega] at this
      rw [this]
      simp; omega

/-! ### A line feed -/
theorem scan_gap (p r : List UInt8) (o : Nat) (h : gapLen false (p ++ r) = p.length + gapLen false r) : scan (p ++ r) o = scan r (o + p.length) := by
  have hd : (p ++ r).drop (p.length + gapLen false r) = r.drop (gapLen false r) := by simp [List.drop_append]
  have hl := gapLen_le false r
  rcases scan_cases r (o + p.length) with ⟨h1, hs⟩ | ⟨h1, ht, hs⟩ | ⟨k, m, h1, h2, h3, ht, hs⟩
  · rw [hs, scan_end (by rw [h]; simp; omega)]
  · rw [hs, scan_bad (by rw [h]; simp; omega) (by rw [h, hd]; exact ht), h, Nat.add_assoc]
  · rw [hs, scan_tok (k := k) (m := m) (by rw [h]; simp; omega) (by rw [h, hd]; exact ht), h, hd]
    have hd2 : (p ++ r).drop (p.length + gapLen false r + m) = r.drop (gapLen false r + m) := by rw [Nat.add_assoc]; simp [List.drop_append]
    rw [hd2, ← Nat.add_assoc]
theorem scan_nl (x y : List UInt8) (o : Nat) : scan (x ++ 10 :: y) o = match (scan x o).2 with
    | none => ((scan x o).1 ++ (scan y (o + x.length + 1)).1, (scan y (o + x.length + 1)).2)
    | some j => ((scan x o).1, some j) := by
  generalize hn : x.length = n
  induction n using Nat.strongRecOn generalizing x o with
  | _ n ih =>
    subst hn
    have hg := gapLen_nl false x y
    rcases scan_cases x o with ⟨h, hs⟩ | ⟨h, ht, hs⟩ | ⟨k, m, h, h0, h1, ht, hs⟩
    · rw [if_pos h] at hg
      have := scan_gap (x ++ [10]) y o (by simpa using hg)
      simp only [List.append_assoc, List.singleton_append, List.length_append, List.length_singleton] at this
      rw [hs, this]
      simp [Nat.add_assoc]
    · rw [if_neg (by omega)] at hg
      rw [hs, scan_bad (by rw [hg]; simp; omega) ?_, hg]
      rw [hg, List.drop_append_of_le_length (by omega)]
      obtain ⟨c, x', hx⟩ : ∃ c x', x.drop (gapLen false x) = c :: x' := by
        rw [List.drop_eq_getElem_cons h]; exact ⟨_, _, rfl⟩
      rw [hx] at ht ⊢
      rw [tokLen_nl]; exact ht
    · rw [if_neg (by omega)] at hg
      have hdr : (x ++ 10 :: y).drop (gapLen false x) = x.drop (gapLen false x) ++ 10 :: y := List.drop_append_of_le_length (by omega)
      have hdr2 : (x ++ 10 :: y).drop (gapLen false x + m) = x.drop (gapLen false x + m) ++ 10 :: y := List.drop_append_of_le_length (by omega)
      have ht' : tokLen ((x ++ 10 :: y).drop (gapLen false (x ++ 10 :: y))) = some (k, m) := by
        rw [hg, hdr]
        obtain ⟨c, x', hx⟩ : ∃ c x', x.drop (gapLen false x) = c :: x' := by
          rw [List.drop_eq_getElem_cons h]; exact ⟨_, _, rfl⟩
        rw [hx] at ht ⊢
        rw [tokLen_nl]; exact ht
      rw [hs, scan_tok (by rw [hg]; simp; omega) ht', hg, hdr, hdr2, List.take_append_of_le_length (by simp; omega)]
      have := ih (x.drop (gapLen false x + m)).length (by simp; omega) (x.drop (gapLen false x + m)) (o + gapLen false x + m) rfl
      rw [this]
      have e : o + gapLen false x + m + (x.length - (gapLen false x + m)) + 1 = o + x.length + 1 := by omega
      simp only [List.length_drop, e]
      cases (scan (x.drop (gapLen false x + m)) (o + gapLen false x + m)).2 <;> simp

/-! ### The beginning of a text -/
def srcLen (t : Tok) : Nat := if t.kind = 4 then t.text.length + 2 else t.text.length
theorem srcLen_tok {x : List UInt8} {k m o : Nat} (h : tokLen x = some (k, m)) : srcLen ⟨k, tokText k (x.take m), o⟩ = m := by
  obtain ⟨h0, h1, hk⟩ := tokLen_bound h
  unfold srcLen tokText
  by_cases h4 : k = 4
  · have : m = textLen x := by rcases hk with ⟨rfl, _⟩ | ⟨rfl, _⟩ | ⟨_, h, _⟩ | ⟨rfl, _⟩ <;> first | omega | exact h
    have := (textLen_le x).2
    simp [h4]; omega
  · simp [h4]; omega
theorem scan_take (r : List UInt8) (o p c : Nat) (hp : p ≤ r.length) (hc : c ≤ (scan r o).1.length)
    (h1 : ∀ c' t, c = c' + 1 → (scan r o).1[c']? = some t → t.at_ + srcLen t ≤ o + p) (h2 : ∀ t, (scan r o).1[c]? = some t → o + p ≤ t.at_)
    (h3 : ∀ j, c = (scan r o).1.length → (scan r o).2 = some j → o + p ≤ j) : scan (r.take p) o = ((scan r o).1.take c, none) := by
  generalize hn : r.length = n
  induction n using Nat.strongRecOn generalizing r o p c with
  | _ n ih =>
    subst hn
    have hgt := gapLen_take false r p
    have hgl := gapLen_le false r
    have hlt : (r.take p).length = p := by simp; omega
    rcases scan_cases r o with ⟨h, hs⟩ | ⟨h, ht, hs⟩ | ⟨k, m, h, h0, hm, ht, hs⟩
    · rw [hs] at hc ⊢
      rw [scan_end (by rw [hgt, hlt]; omega)]; simp
    · rw [hs] at hc h3 ⊢
      simp only [List.length_nil, Nat.le_zero] at hc
      have := h3 _ (by simp [hc]) rfl
      rw [scan_end (by rw [hgt, hlt]; omega)]; simp
    · rw [hs] at hc h1 h2 h3 ⊢
      cases c with
      | zero =>
        have := h2 _ rfl
        simp only at this
        rw [scan_end (by rw [hgt, hlt]; omega)]; simp
      | succ c =>
        have hpos := (scan_pos (r.drop (gapLen false r + m)) (o + gapLen false r + m)).1
        have hpm : gapLen false r + m ≤ p := by
          cases c with
          | zero =>
            have := h1 0 _ rfl rfl
            rw [srcLen_tok ht] at this
            simp only at this
            omega
          | succ c =>
            simp only [List.length_cons, Nat.add_le_add_iff_right] at hc
            have hget : (scan (r.drop (gapLen false r + m)) (o + gapLen false r + m)).1[c]? = some ((scan (r.drop (gapLen false r + m)) (o + gapLen false r + m)).1[c]) := List.getElem?_eq_getElem (by omega)
            have a1 := h1 (c + 1) _ rfl hget
            have a2 := hpos _ (List.getElem_mem (by omega : c < _))
            omega
        have hg' : gapLen false (r.take p) = gapLen false r := by rw [hgt]; omega
        have hd : (r.take p).drop (gapLen false r) = (r.drop (gapLen false r)).take (p - gapLen false r) := List.drop_take
        have hd2 : (r.take p).drop (gapLen false r + m) = (r.drop (gapLen false r + m)).take (p - (gapLen false r + m)) := List.drop_take
        have ht' : tokLen ((r.take p).drop (gapLen false (r.take p))) = some (k, m) := by rw [hg', hd]; exact tokLen_take ht (by omega)
        have hrec := ih (r.drop (gapLen false r + m)).length (by simp; omega) (r.drop (gapLen false r + m)) (o + gapLen false r + m) (p - (gapLen false r + m)) c (by simp; omega) (by simpa using hc)
          (fun c' t hcc ht'' => by
            have := h1 (c' + 1) t (by omega) (by simpa using ht''); omega)
          (fun t ht'' => by have := h2 t (by simpa using ht''); omega)
          (fun j hj hj' => by have := h3 j (by simpa using hj) hj'; omega) rfl
        rw [scan_tok (by rw [hg', hlt]; omega) ht', hg', hd, hd2, hrec]
        simp only [List.take_succ_cons, List.take_take]
        rw [Nat.min_eq_left (by omega)]
/-- Tokens follow one another. -/
theorem scan_mono (r : List UInt8) (o : Nat) : (∀ i t, (scan r o).1[i]? = some t → t.at_ + srcLen t ≤ o + r.length ∧ (∀ t', (scan r o).1[i + 1]? = some t' → t.at_ + srcLen t ≤ t'.at_) ∧ (∀ j, (scan r o).2 = some j → t.at_ + srcLen t ≤ j)) := by
  generalize hn : r.length = n
  induction n using Nat.strongRecOn generalizing r o with
  | _ n ih =>
    subst hn
    rcases scan_cases r o with ⟨h, hs⟩ | ⟨h, ht, hs⟩ | ⟨k, m, h, h0, h1, ht, hs⟩
    · rw [hs]; simp
    · rw [hs]; simp
    · rw [hs]
      have hpos := scan_pos (r.drop (gapLen false r + m)) (o + gapLen false r + m)
      have hrec := ih (r.drop (gapLen false r + m)).length (by simp; omega) (r.drop (gapLen false r + m)) (o + gapLen false r + m) rfl
      intro i t hi
      cases i with
      | zero =>
        simp only [List.getElem?_cons_zero, Option.some.injEq] at hi
        subst hi
        rw [srcLen_tok ht]
        refine ⟨by simp only; omega, fun t' ht' => ?_, fun j hj => ?_⟩
        · simp only [Nat.zero_add, List.getElem?_cons_succ] at ht'
          have := (hpos.1 t' (List.mem_of_getElem? ht')).1
          simp only; omega
        · have := (hpos.2 j hj).1
          simp only; omega
      | succ i =>
        simp only [List.getElem?_cons_succ] at hi
        obtain ⟨a1, a2, a3⟩ := hrec i t hi
        simp only [List.length_drop] at a1
        exact ⟨by omega, fun t' ht' => a2 t' (by simpa using ht'), a3⟩

/-! ### The first error -/
theorem firstError {s : List UInt8} {e at_ : Nat} (hs : s.length ≤ 8000) (h : lexF s = .error (e, at_)) : (e = 2 ∨ e = 30) ∧ at_ < s.length ∧ ∃ ts, lexF (s.take at_) = .ok ts := by
  rw [lexF_eq s hs] at h
  have hpos := scan_pos s 0
  have hmono := scan_mono s 0
  rcases cut_error h with ⟨t, ht, hx⟩ | ⟨j, hl, hj, hx⟩
  · cases hx
    have hp := hpos.1 t (List.mem_of_getElem? ht)
    have hlen : 3000 < (scan s 0).1.length := (List.getElem?_eq_some_iff.1 ht).1
    refine ⟨.inl rfl, by omega, (scan s 0).1.take 3000, ?_⟩
    rw [lexF_eq _ (by simp; omega), scan_take s 0 t.at_ 3000 (by omega) (by omega) (fun c' t' hc ht' => ?_) (fun t' ht' => ?_) (fun j hj => by omega)]
    · exact cut_of_ok (by simp; omega)
    · obtain rfl : c' = 2999 := by omega
      have := (hmono 2999 t' ht').2.1 t ht; omega
    · rw [ht] at ht'; cases ht'; omega
  · have hp := hpos.2 j hj
    have hx1 : at_ = j := by have := congrArg Prod.snd hx; exact this
    have hx2 : e = if (scan s 0).1.length = 3000 then 2 else 30 := by have := congrArg Prod.fst hx; exact this
    subst hx1
    refine ⟨by rw [hx2]; split <;> simp, by omega, (scan s 0).1, ?_⟩
    rw [lexF_eq _ (by simp; omega), scan_take s 0 at_ (scan s 0).1.length (by omega) (Nat.le_refl _) (fun c' t' hc ht' => ?_) (fun t' ht' => ?_) (fun j' _ hj' => ?_)]
    · rw [List.take_length]; exact cut_of_ok hl
    · have := (hmono c' t' ht').2.2 at_ hj; omega
    · have := (List.getElem?_eq_some_iff.1 ht').1; omega
    · rw [hj] at hj'; cases hj'; omega
theorem scan_split_error {x z' more : List UInt8} {e at_ : Nat} (hat : at_ ≤ x.length) (h : cut 3000 (scan (x ++ 10 :: z') 0).1 (scan (x ++ 10 :: z') 0).2 = .error (e, at_)) :
    cut 3000 (scan (x ++ 10 :: more) 0).1 (scan (x ++ 10 :: more) 0).2 = .error (e, at_) := by
  rw [scan_nl] at h ⊢
  cases hx : (scan x 0).2 with
  | some j => rw [hx] at h; simpa using h
  | none =>
    rw [hx] at h
    simp only at h ⊢
    have hpos := scan_pos z' (0 + x.length + 1)
    rcases cut_error h with ⟨t, ht, he⟩ | ⟨j, hl, hj, he⟩
    · by_cases hlt : 3000 < (scan x 0).1.length
      · rw [List.getElem?_append_left hlt] at ht
        rw [cut_many (t := t) (by rw [List.getElem?_append_left hlt]; exact ht), he]
      · rw [List.getElem?_append_right (by omega)] at ht
        have := (hpos.1 t (List.mem_of_getElem? ht)).1
        cases he; omega
    · have := (hpos.2 j hj).1
      have : at_ = j := by have := congrArg Prod.snd he; exact this
      omega
theorem firstError_more {s more : List UInt8} {e at_ fin : Nat} (hs : s.length ≤ 8000) (h : lexF s = .error (e, at_)) (hfin : at_ ≤ fin) (hfl : fin ≤ s.length) (hnl : ∀ hf : fin < s.length, s[fin].toNat = 10)
    (hl : (s.take fin ++ 10 :: more).length ≤ 8000) : lexF (s.take fin ++ 10 :: more) = .error (e, at_) := by
  rw [lexF_eq s hs] at h
  rw [lexF_eq _ hl]
  by_cases hf : fin < s.length
  · have hsp : s = s.take fin ++ 10 :: s.drop (fin + 1) := by
      have h10 : s[fin] = 10 := UInt8.toNat_inj.1 (hnl hf)
      rw [← h10, ← List.drop_eq_getElem_cons hf, List.take_append_drop]
    rw [hsp] at h
    exact scan_split_error (by simp; omega) h
  · have : s.take fin = s := List.take_of_length_le (by omega)
    rw [this, scan_nl]
    have hpos := scan_pos s 0
    cases hx : (scan s 0).2 with
    | some j => rw [hx] at h; exact h
    | none =>
      rw [hx] at h
      rcases cut_error h with ⟨t, ht, he⟩ | ⟨j, hl, hj, he⟩
      · have hlt := (List.getElem?_eq_some_iff.1 ht).1
        rw [cut_many (t := t) (by rw [List.getElem?_append_left hlt]; exact ht), he]
      · cases hj
/-! ### The beginnings -/
theorem lexF_ok {s : List UInt8} {ts : List Tok} (h : lexF s = .ok ts) : s.length ≤ 8000 ∧ scan s 0 = (ts, none) ∧ ts.length ≤ 3000 := by
  have hl : s.length ≤ 8000 := by
    rcases Nat.lt_or_ge 8000 s.length with hlt | hge
    · unfold lexF at h; rw [if_pos hlt] at h; cases h
    · exact hge
  rw [lexF_eq s hl] at h
  obtain ⟨h1, h2, h3⟩ := cut_ok h
  exact ⟨hl, by rw [h1, ← h2], by rw [h1]; exact h3⟩
theorem lexF_of_scan {s : List UInt8} {ts : List Tok} (hl : s.length ≤ 8000) (h : scan s 0 = (ts, none)) (h3 : ts.length ≤ 3000) : lexF s = .ok ts := by
  rw [lexF_eq s hl, h]; exact cut_of_ok h3
theorem prefixes {s : List UInt8} {ts : List Tok} (h : lexF s = .ok ts) (i : Nat) (hi : i < ts.length) :
    ts[i].at_ + srcLen ts[i] ≤ s.length ∧ lexF (s.take (ts[i].at_ + srcLen ts[i])) = .ok (ts.take (i + 1)) := by
  obtain ⟨hl, hs, h3⟩ := lexF_ok h
  have hmono := scan_mono s 0
  rw [hs] at hmono
  have hget : ts[i]? = some ts[i] := List.getElem?_eq_getElem hi
  obtain ⟨a1, a2, _⟩ := hmono i _ hget
  refine ⟨by omega, lexF_of_scan (by simp; omega) ?_ (by simp; omega)⟩
  have := scan_take s 0 (ts[i].at_ + srcLen ts[i]) (i + 1) (by omega) (by rw [hs]; exact hi) ?_ ?_ ?_
  · rw [this, hs]
  · intro c' t hc ht
    obtain rfl : c' = i := by omega
    rw [hs] at ht
    have : t = ts[c'] := by rw [hget] at ht; exact (Option.some.inj ht).symm
    rw [this]; omega
  · intro t ht
    rw [hs] at ht
    have := a2 t ht; omega
  · intro j _ hj
    rw [hs] at hj; cases hj
theorem scan_kind (r : List UInt8) (o : Nat) : ∀ t ∈ (scan r o).1, t.kind = 1 ∨ t.kind = 2 ∨ t.kind = 3 ∨ t.kind = 4 := by
  generalize hn : r.length = n
  induction n using Nat.strongRecOn generalizing r o with
  | _ n ih =>
    subst hn
    rcases scan_cases r o with ⟨h, hs⟩ | ⟨h, ht, hs⟩ | ⟨k, m, h, h0, h1, ht, hs⟩
    · rw [hs]; simp
    · rw [hs]; simp
    · rw [hs]
      intro t ht'
      simp only [List.mem_cons] at ht'
      rcases ht' with rfl | ht'
      · obtain ⟨_, _, hk⟩ := tokLen_bound ht
        rcases hk with ⟨rfl, _⟩ | ⟨rfl, _⟩ | ⟨rfl, _⟩ | ⟨rfl, _⟩ <;> simp
      · exact ih _ (by simp; omega) _ _ rfl t ht'
/-- What an error is. -/
theorem lexF_err {s : List UInt8} {e at_ : Nat} (h : lexF s = .error (e, at_)) : (e = 2 ∨ e = 30) ∧ at_ ≤ 8000 := by
  rcases Nat.lt_or_ge 8000 s.length with hlt | hge
  · unfold lexF at h; rw [if_pos hlt] at h; cases h; exact ⟨.inl rfl, Nat.le_refl _⟩
  · have := firstError hge h; exact ⟨this.1, by omega⟩
/-! ### Two texts -/
def shiftTok (d : Nat) (t : Tok) : Tok := ⟨t.kind, t.text, t.at_ + d⟩
theorem concat_err {a b : List UInt8} {e at_ : Nat} (ha : a.length ≤ 4000) (hb : b.length ≤ 3999) (h : lexF a = .error (e, at_)) : lexF (a ++ 10 :: b) = .error (e, at_) := by
  have := firstError_more (more := b) (fin := a.length) (by omega) h (by have := (firstError (by omega) h).2.1; omega) (Nat.le_refl _) (fun hf => absurd hf (by omega)) (by simp; omega)
  rwa [List.take_length] at this
theorem concat_ok {a b : List UInt8} {xs ys : List Tok} (ha : a.length ≤ 4000) (hb : b.length ≤ 3999) (hx : lexF a = .ok xs) (hy : lexF b = .ok ys) :
    (3000 < xs.length + ys.length → ∃ off, off ≤ 8000 ∧ lexF (a ++ 10 :: b) = .error (2, off)) ∧ (xs.length + ys.length ≤ 3000 → lexF (a ++ 10 :: b) = .ok (xs ++ ys.map (shiftTok (a.length + 1)))) := by
  obtain ⟨_, sx, _⟩ := lexF_ok hx
  obtain ⟨_, sy, _⟩ := lexF_ok hy
  have hsc : scan (a ++ 10 :: b) 0 = (xs ++ ys.map (shiftTok (a.length + 1)), none) := by
    rw [scan_nl, sx]
    simp only
    have := scan_shift b 0 (a.length + 1)
    rw [sy] at this
    simp only [Nat.zero_add] at this
    rw [Nat.zero_add, this]
    rfl
  have hl : (a ++ 10 :: b).length ≤ 8000 := by simp; omega
  constructor
  · intro h3
    have hlt : 3000 < (xs ++ ys.map (shiftTok (a.length + 1))).length := by simp; omega
    have he : lexF (a ++ 10 :: b) = .error (2, (xs ++ ys.map (shiftTok (a.length + 1)))[3000].at_) := by
      rw [lexF_eq _ hl, hsc, cut_many (List.getElem?_eq_getElem hlt)]
    exact ⟨_, (lexF_err he).2, he⟩
  · intro h3
    exact lexF_of_scan hl hsc (by simp; omega)
end Go.Proofs.YtbeodifgekhhpaaDoor.Lex
