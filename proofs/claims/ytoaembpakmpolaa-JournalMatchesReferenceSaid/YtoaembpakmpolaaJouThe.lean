/-
  Plain laws on frames: what is appended is read again; torn and damaged journals.
-/
import Derived.Test.YtoaembpakmpolaaJouApp
namespace Go.Proofs.Ytoaembpakmpolaa
namespace Jou

def Good (b : List UInt8) : Prop := 1 ≤ b.length ∧ b.length ≤ 3000
def frs (bs : List (List UInt8)) : List UInt8 := (bs.map frame).flatten
theorem csum_len (b : List UInt8) : (csum b).length = 4 := rfl
theorem frame_len (b : List UInt8) : (frame b).length = 8 + b.length := by simp [frame, csum_len, lenB]; omega
theorem frame_eq (b : List UInt8) : frame b = UInt8.ofNat (b.length / 256) :: UInt8.ofNat b.length :: (255 - UInt8.ofNat (b.length / 256)) :: (255 - UInt8.ofNat b.length) :: (csum b ++ b) := by
  simp [frame, lenB]
theorem len_back {n : Nat} (h : n ≤ 3000) : (UInt8.ofNat (n / 256)).toNat * 256 + (UInt8.ofNat n).toNat = n := by
  rw [UInt8.toNat_ofNat', UInt8.toNat_ofNat']; omega
/-- A whole frame is read. -/
theorem framed_frame {b : List UInt8} (h : Good b) (rest : List UInt8) : framed (frame b ++ rest) = some b := by
  rw [frame_eq]
  simp only [List.cons_append, framed, len_back h.2]
  have h1 : ((csum b ++ b ++ rest).drop 4).take b.length = b := by
    rw [List.append_assoc, List.drop_left' (csum_len b), List.take_left]
  have h2 : (csum b ++ b ++ rest).take 4 = csum b := by rw [List.append_assoc, List.take_left' (csum_len b)]
  rw [if_neg (by simp only [List.length_append, csum_len]; have := h.1; simp; omega), if_neg (by simp only [List.length_append, csum_len]; have := h.1; have := h.2; omega), h1, h2, if_pos rfl]
/-- What is read is a whole frame. -/
theorem framed_is {j r : List UInt8} (h : framed j = some r) : Good r ∧ j = frame r ++ j.drop (8 + r.length) := by
  match j, h with
  | a :: b :: c :: d :: t, h =>
    simp only [framed] at h
    by_cases h1 : t.length ≤ 4 ∨ c ≠ 255 - a ∨ d ≠ 255 - b
    · rw [if_pos h1] at h; cases h
    · rw [if_neg h1] at h
      by_cases h2 : a.toNat * 256 + b.toNat < 1 ∨ 3000 < a.toNat * 256 + b.toNat ∨ t.length < a.toNat * 256 + b.toNat + 4
      · rw [if_pos h2] at h; cases h
      · rw [if_neg h2] at h
        by_cases h3 : csum ((t.drop 4).take (a.toNat * 256 + b.toNat)) = t.take 4
        · rw [if_pos h3] at h
          cases h
          have hl : ((t.drop 4).take (a.toNat * 256 + b.toNat)).length = a.toNat * 256 + b.toNat := by rw [List.length_take, List.length_drop]; omega
          refine ⟨⟨by omega, by omega⟩, ?_⟩
          rw [frame_eq, hl, h3]
          have hb := UInt8.toNat_lt b
          have ha := UInt8.toNat_lt a
          have e1 : UInt8.ofNat ((a.toNat * 256 + b.toNat) / 256) = a := by
            apply UInt8.toNat_inj.1
            rw [UInt8.toNat_ofNat']
            omega
          have e2 : UInt8.ofNat (a.toNat * 256 + b.toNat) = b := by
            apply UInt8.toNat_inj.1
            rw [UInt8.toNat_ofNat']
            omega
          have h1' : c = 255 - a ∧ d = 255 - b := by
            refine ⟨?_, ?_⟩
            · exact Classical.byContradiction fun hc => h1 (.inr (.inl hc))
            · exact Classical.byContradiction fun hc => h1 (.inr (.inr hc))
          rw [e1, e2, ← h1'.1, ← h1'.2]
          have e3 : (a :: b :: c :: d :: t).drop (8 + (a.toNat * 256 + b.toNat)) = t.drop (4 + (a.toNat * 256 + b.toNat)) := by
            rw [show 8 + (a.toNat * 256 + b.toNat) = (4 + (a.toNat * 256 + b.toNat)) + 1 + 1 + 1 + 1 by omega]
            rfl
          rw [e3, ← List.drop_drop]
          simp only [List.cons_append, List.append_assoc, List.take_append_drop]
        · rw [if_neg h3] at h; cases h
theorem recsN_frame (n : Nat) {b : List UInt8} (h : Good b) (rest : List UInt8) : recsN (n + 1) (frame b ++ rest) = b :: recsN n rest := by
  rw [recsN_succ, framed_frame h]
  simp only
  rw [show 8 + b.length = (frame b).length by rw [frame_len], List.drop_left]
theorem recsN_frs (bs : List (List UInt8)) (hg : ∀ b ∈ bs, Good b) : ∀ n, bs.length ≤ n → ∀ rest, recsN n (frs bs ++ rest) = bs ++ recsN (n - bs.length) rest := by
  induction bs with
  | nil => intro n _ rest; simp [frs]
  | cons b bs ih =>
    intro n hn rest
    obtain ⟨m, rfl⟩ : ∃ m, n = m + 1 := ⟨n - 1, by simp at hn; omega⟩
    have e : frs (b :: bs) ++ rest = frame b ++ (frs bs ++ rest) := by simp [frs]
    rw [e, recsN_frame m (hg b (by simp)), ih (fun x hx => hg x (by simp [hx])) m (by simpa using hn)]
    simp
theorem offs_frs (bs : List (List UInt8)) (k : Nat) : offs bs k = (frs (bs.take k)).length := by
  simp only [offs, frs, List.length_flatten, List.map_map]
  congr 1
  apply List.map_congr_left
  intro b _
  simp [frame_len]
theorem recsN_good (n : Nat) : ∀ j, (∀ b ∈ recsN n j, Good b) ∧ j = frs (recsN n j) ++ j.drop (offs (recsN n j) (recsN n j).length) := by
  induction n with
  | zero => intro j; simp [recsN, frs, offs]
  | succ n ih =>
    intro j
    rw [recsN_succ]
    cases hf : framed j with
    | none => simp [frs, offs]
    | some r =>
      obtain ⟨hg, hj⟩ := framed_is hf
      obtain ⟨h1, h2⟩ := ih (j.drop (8 + r.length))
      simp only
      refine ⟨fun b hb => ?_, ?_⟩
      · rcases List.mem_cons.1 hb with rfl | hb
        · exact hg
        · exact h1 b hb
      · have eo : offs (r :: recsN n (j.drop (8 + r.length))) (r :: recsN n (j.drop (8 + r.length))).length = 8 + r.length + offs (recsN n (j.drop (8 + r.length))) (recsN n (j.drop (8 + r.length))).length := by simp [offs]
        rw [eo, show j.drop (8 + r.length + offs (recsN n (j.drop (8 + r.length))) (recsN n (j.drop (8 + r.length))).length) = (j.drop (8 + r.length)).drop (offs (recsN n (j.drop (8 + r.length))) (recsN n (j.drop (8 + r.length))).length) from List.drop_drop.symm]
        have e : frs (r :: recsN n (j.drop (8 + r.length))) = frame r ++ frs (recsN n (j.drop (8 + r.length))) := by simp [frs]
        rw [e, List.append_assoc, ← h2]
        exact hj
theorem recs_good (j : List UInt8) : ∀ b ∈ recs j, Good b := (recsN_good 500 j).1
/-- The complete part of a journal. -/
theorem take_offs (j : List UInt8) : j.take (offs (recs j) (recs j).length) = frs (recs j) := by
  have h := (recsN_good 500 j).2
  change j = frs (recs j) ++ j.drop (offs (recs j) (recs j).length) at h
  have hl : (frs (recs j)).length = offs (recs j) (recs j).length := by rw [offs_frs, List.take_length]
  rw [← hl]
  exact (congrArg (List.take (frs (recs j)).length) h).trans (List.take_left)
theorem recs_frs (bs : List (List UInt8)) (hg : ∀ b ∈ bs, Good b) (hn : bs.length ≤ 500) : recs (frs bs) = bs := by
  have := recsN_frs bs hg 500 hn []
  rw [List.append_nil] at this
  unfold recs
  rw [this]
  have : recsN (500 - bs.length) [] = [] := by cases 500 - bs.length <;> rfl
  rw [this, List.append_nil]
theorem frs_append (a b : List (List UInt8)) : frs (a ++ b) = frs a ++ frs b := by simp [frs]
theorem frs_one (b : List UInt8) : frs [b] = frame b := by simp [frs]
/-- Append in words of records. -/
theorem append_ok (j b : List UInt8) (hb : Good b) (hj : (recs j).length < 500) : appendR j b = (frs (recs j ++ [b]), 0) := by
  unfold appendR
  rw [if_neg (by have := hb.1; have := hb.2; omega), if_neg (by omega), take_offs, frs_append, frs_one]
theorem append_full (j b : List UInt8) (hb : Good b) (hj : ¬ (recs j).length < 500) : appendR j b = ([], 2) := by
  unfold appendR
  rw [if_neg (by have := hb.1; have := hb.2; omega), if_pos (by omega)]
theorem recs_append (j b : List UInt8) (hb : Good b) (hj : (recs j).length < 500) : recs (frs (recs j ++ [b])) = recs j ++ [b] :=
  recs_frs _ (fun x hx => by
    rcases List.mem_append.1 hx with hx | hx
    · exact recs_good j x hx
    · rw [List.mem_singleton.1 hx]; exact hb) (by simp; omega)
theorem offs_all (bs : List (List UInt8)) : offs bs bs.length = (frs bs).length := by rw [offs_frs, List.take_length]
theorem recs_tail (j : List UInt8) : recs (frs (recs j)) = recs j := recs_frs _ (recs_good j) (recs_le j)
end Jou
end Go.Proofs.Ytoaembpakmpolaa
