/-
  Plain laws: tokens joined with gaps are the tokens of the text. No program in sight.
-/
import Derived.Test.YtbeodifgekhhpaaDoorLexNextT
namespace Go.Proofs.YtbeodifgekhhpaaDoor.Lex

def refGaps : List (List UInt8) := [[32], [10], [9, 13], [37, 10], [32, 37, 32, 108, 105, 110, 101, 32, 34, 120, 34, 32, 36, 10], [37, 37, 13, 10, 32, 32]]
theorem refGaps_gap (g x : List UInt8) (h : g ∈ refGaps) : gapLen false (g ++ x) = g.length + gapLen false x := by
  simp only [refGaps, List.mem_cons, List.not_mem_nil, or_false] at h
  rcases h with rfl | rfl | rfl | rfl | rfl | rfl <;> simp [gapLen] <;> omega
/-- What may stand behind a token. -/
def Ends (r : List UInt8) : Prop := ∀ c x, r = c :: x → isWord c = false ∧ c.toNat ≠ 62
theorem ends_nil : Ends [] := fun _ _ h => by cases h
theorem ends_gap (g x : List UInt8) (h : g ∈ refGaps) : Ends (g ++ x) := by
  simp only [refGaps, List.mem_cons, List.not_mem_nil, or_false] at h
  rcases h with rfl | rfl | rfl | rfl | rfl | rfl <;> (intro c y he; simp at he; obtain ⟨rfl, _⟩ := he; exact ⟨by decide, by decide⟩)
theorem runDig_app (p r : List UInt8) (h : p.all isWord = true) : runDig (p ++ r) = runDig p + runDig r := by
  induction p with
  | nil => simp [runDig]
  | cons c p ih =>
    simp only [List.all_cons, Bool.and_eq_true] at h
    simp only [List.cons_append, runDig, h.1, if_true, ih h.2]
    split <;> omega
theorem ends_run {r : List UInt8} (h : Ends r) : runLen r = 0 ∧ runDig r = 0 := by
  cases r with
  | nil => exact ⟨rfl, rfl⟩
  | cons c x => have := (h c x rfl).1; simp [runLen, runDig, this]
theorem run_app {p r : List UInt8} (hp : runLen p = p.length) (h : Ends r) : runLen (p ++ r) = runLen p ∧ runDig (p ++ r) = runDig p := by
  have hall : p.all isWord = true := by have := run_all p; rwa [hp, List.take_length] at this
  obtain ⟨a, b⟩ := ends_run h
  rw [runLen_app p r hall, runDig_app p r hall]
  omega
theorem symLen_app (p r : List UInt8) (hp : p ∈ symbols) (h : Ends r) : symLen (p ++ r) = p.length ∧ textLen (p ++ r) = 0 := by
  simp only [symbols, List.mem_cons, List.not_mem_nil, or_false] at hp
  rcases hp with rfl | rfl | rfl | rfl | rfl | rfl | rfl | rfl | rfl | rfl | rfl | rfl | rfl
  all_goals first
    | (simp [symLen, symbols, firstPre, List.isPrefixOf, textLen]; done)
    | (cases r with
       | nil => simp [symLen, symbols, firstPre, List.isPrefixOf, textLen]
       | cons d r =>
         have hd : (62 == d) = false := by
           have := (h d r rfl).2
           simp only [beq_eq_false_iff_ne, ne_eq]
           intro e; rw [← e] at this; exact this rfl
         simp [symLen, symbols, firstPre, List.isPrefixOf, textLen, hd])
/-- A piece that is a token is the token with which a text begins, if nothing lengthens it. -/
theorem tokLen_app {p r : List UInt8} {k : Nat} (hp : tokLen p = some (k, p.length)) (h : Ends r) : tokLen (p ++ r) = some (k, p.length) := by
  obtain ⟨h0, _, hk⟩ := tokLen_bound hp
  have hhead : ((p ++ r).headD 0) = p.headD 0 := by
    cases p with
    | nil => simp at h0
    | cons c x => rfl
  rcases hk with ⟨rfl, hm⟩ | ⟨rfl, hm, hz⟩ | ⟨rfl, hm, hz, hz2⟩ | ⟨rfl, hm, hz, hz2, hz3⟩
  · have hr := runLen_of_num (x := p) (by omega)
    obtain ⟨a, b⟩ := run_app (p := p) (r := r) (by omega) h
    have e : numLen (p ++ r) = numLen p := by unfold numLen; rw [a, b]
    unfold tokLen; rw [e, if_pos (by omega), ← hm]
  · have hr := runLen_of_name (x := p) (by omega)
    obtain ⟨a, b⟩ := run_app (p := p) (r := r) (by omega) h
    have e : numLen (p ++ r) = numLen p := by unfold numLen; rw [a, b]
    have e2 : nameLen (p ++ r) = nameLen p := by unfold nameLen; rw [a, b, hhead]
    unfold tokLen; rw [e, e2, hz, if_neg (by omega), if_pos (by omega), ← hm]
  · obtain ⟨a, b, mid, hml, hall, he⟩ := text_piece (x := p) (by omega)
    rw [← hm, List.take_length] at he
    have e : textLen (p ++ r) = p.length := by
      rw [he]
      simp only [List.cons_append, List.append_assoc, textLen]
      rw [if_pos (by rfl)]
      have := txtGo_app 1 mid r hall (by omega)
      rw [List.nil_append, this]
      simp; omega
    rw [tokLen_text (by omega), e]
  · have hmem := firstPre_mem p symbols (by show 0 < symLen p; omega)
    rw [show firstPre p symbols = symLen p from rfl, ← hm, List.take_length] at hmem
    obtain ⟨a, b⟩ := symLen_app p r hmem h
    rw [tokLen_sym (by omega) b, a]
theorem tok_nogap {p : List UInt8} {k m : Nat} (h : tokLen p = some (k, m)) : ∃ c x, p = c :: x ∧ ¬ (c.toNat = 32 ∨ c.toNat = 9 ∨ c.toNat = 10 ∨ c.toNat = 13) ∧ ¬ c.toNat = 37 := by
  obtain ⟨h0, hl, hk⟩ := tokLen_bound h
  cases p with
  | nil => simp at hl; omega
  | cons c x =>
    refine ⟨c, x, rfl, ?_⟩
    have hword : isWord c = true → ¬ (c.toNat = 32 ∨ c.toNat = 9 ∨ c.toNat = 10 ∨ c.toNat = 13) ∧ ¬ c.toNat = 37 := by
      intro hw
      simp [isWord, isDig] at hw
      omega
    rcases hk with ⟨rfl, rfl⟩ | ⟨rfl, rfl, hz⟩ | ⟨rfl, rfl, hz, hz2⟩ | ⟨rfl, rfl, hz, hz2, hz3⟩
    · exact hword (runLen_head (r := x) (by rw [← runLen_of_num h0]; exact h0))
    · exact hword (runLen_head (r := x) (by rw [← runLen_of_name h0]; exact h0))
    · simp only [textLen] at h0
      split at h0
      · rename_i hc; omega
      · omega
    · have hmem := firstPre_mem (c :: x) symbols h0
      have key : ∀ s ∈ symbols, ∀ a t, s = a :: t → ¬ (a.toNat = 32 ∨ a.toNat = 9 ∨ a.toNat = 10 ∨ a.toNat = 13) ∧ ¬ a.toNat = 37 := by
        intro s hs a t he
        simp only [symbols, List.mem_cons, List.not_mem_nil, or_false] at hs
        rcases hs with rfl | rfl | rfl | rfl | rfl | rfl | rfl | rfl | rfl | rfl | rfl | rfl | rfl <;> (cases he; exact ⟨by decide, by decide⟩)
      obtain ⟨n, hn⟩ : ∃ n, firstPre (c :: x) symbols = n + 1 := ⟨symLen (c :: x) - 1, by show symLen (c :: x) = _; omega⟩
      rw [hn, List.take_succ_cons] at hmem
      exact key _ hmem c _ rfl
/-- A token whose source is a piece. -/
def Good (t : Tok) : Prop := tokLen (srcP t.kind t.text) = some (t.kind, (srcP t.kind t.text).length) ∧ tokText t.kind (srcP t.kind t.text) = t.text
theorem scan_good (r : List UInt8) (o : Nat) : ∀ t ∈ (scan r o).1, Good t := by
  generalize hn : r.length = n
  induction n using Nat.strongRecOn generalizing r o with
  | _ n ih =>
    subst hn
    rcases scan_cases r o with ⟨h, hs⟩ | ⟨h, ht, hs⟩ | ⟨k, m, h, h0, h1, ht, hs⟩
    · rw [hs]; simp
    · rw [hs]; simp
    · rw [hs]
      intro t ht'
      simp only [List.mem_cons] at ht'
      rcases ht' with rfl | ht'
      · have hsp := src_piece ht
        have hlen : ((r.drop (gapLen false r)).take m).length = m := by simp; omega
        unfold Good
        simp only
        rw [hsp, hlen]
        exact ⟨tokLen_take ht (Nat.le_refl _), rfl⟩
      · exact ih _ (by simp; omega) _ _ rfl t ht'
/-- Tokens, each behind a gap. -/
def layF (L : List (List UInt8 × Tok)) : List UInt8 := L.flatMap fun x => x.1 ++ srcP x.2.kind x.2.text
def layT : Nat → List (List UInt8 × Tok) → List Tok
  | _, [] => []
  | o, x :: L => ⟨x.2.kind, x.2.text, o + x.1.length⟩ :: layT (o + x.1.length + (srcP x.2.kind x.2.text).length) L
theorem lay_ends (L : List (List UInt8 × Tok)) (hg : ∀ x ∈ L, x.1 ∈ refGaps) : Ends (layF L) := by
  cases L with
  | nil => exact ends_nil
  | cons x L =>
    show Ends (x.1 ++ srcP x.2.kind x.2.text ++ layF L)
    rw [List.append_assoc]
    exact ends_gap _ _ (hg x (by simp))
theorem scan_lay (L : List (List UInt8 × Tok)) (o : Nat) (hg : ∀ x ∈ L, x.1 ∈ refGaps) (ht : ∀ x ∈ L, Good x.2) : scan (layF L) o = (layT o L, none) := by
  induction L generalizing o with
  | nil => exact scan_end rfl
  | cons x L ih =>
    have hx := hg x (by simp)
    obtain ⟨h1, h2⟩ := ht x (by simp)
    have hL := fun y (hy : y ∈ L) => hg y (by simp [hy])
    have hT := fun y (hy : y ∈ L) => ht y (by simp [hy])
    have he := lay_ends L hL
    obtain ⟨g, t⟩ := x
    simp only at hx h1 h2
    have hfl : layF ((g, t) :: L) = g ++ (srcP t.kind t.text ++ layF L) := by
      show g ++ srcP t.kind t.text ++ layF L = _
      rw [List.append_assoc]
    have htok := tokLen_app h1 he
    have hz : gapLen false (srcP t.kind t.text ++ layF L) = 0 := by
      obtain ⟨c, y, hcy, a, b⟩ := tok_nogap htok
      rw [hcy]; simp [gapLen, a, b]
    have hp0 : 0 < (srcP t.kind t.text).length := (tokLen_bound h1).1
    rw [hfl, scan_gap g _ o (refGaps_gap g _ hx)]
    rw [scan_tok (k := t.kind) (m := (srcP t.kind t.text).length) (by rw [hz]; simp; omega) (by rw [hz]; simpa using htok)]
    rw [hz]
    simp only [Nat.add_zero, Nat.zero_add, List.drop_zero, List.take_left', List.drop_left']
    rw [ih _ hL hT]
    simp only [layT, h2]
theorem layF_snoc (L : List (List UInt8 × Tok)) (x : List UInt8 × Tok) : layF (L ++ [x]) = layF L ++ x.1 ++ srcP x.2.kind x.2.text := by simp [layF]
theorem layT_snoc (L : List (List UInt8 × Tok)) (x : List UInt8 × Tok) (o : Nat) : layT o (L ++ [x]) = layT o L ++ [⟨x.2.kind, x.2.text, o + (layF L).length + x.1.length⟩] := by
  induction L generalizing o with
  | nil => simp [layT, layF]
  | cons y L ih =>
    simp only [List.cons_append, layT, ih]
    have : (layF (y :: L)).length = y.1.length + (srcP y.2.kind y.2.text).length + (layF L).length := by simp [layF, Nat.add_assoc]
    rw [this]
    simp; omega
theorem layT_len (L : List (List UInt8 × Tok)) (o : Nat) : (layT o L).length = L.length := by
  induction L generalizing o with
  | nil => rfl
  | cons y L ih => simp [layT, ih]
theorem layT_kind (L : List (List UInt8 × Tok)) (o i : Nat) (h : i < L.length) : ((layT o L)[i]'(by rw [layT_len]; exact h)).kind = L[i].2.kind ∧ ((layT o L)[i]'(by rw [layT_len]; exact h)).text = L[i].2.text := by
  induction L generalizing o i with
  | nil => simp at h
  | cons y L ih =>
    cases i with
    | zero => exact ⟨rfl, rfl⟩
    | succ i => simpa [layT] using ih _ i (by simpa using h)
/-- The gap of a number. -/
def gapNo (k : Nat) : List UInt8 := refGaps[k % 6]'(Nat.mod_lt _ (by decide))
theorem gapNo_mem (k : Nat) : gapNo k ∈ refGaps := List.getElem_mem _
theorem gapNo_len (k : Nat) : (gapNo k).length ≤ 14 := (by decide : ∀ g ∈ refGaps, g.length ≤ 14) _ (gapNo_mem k)
end Go.Proofs.YtbeodifgekhhpaaDoor.Lex
