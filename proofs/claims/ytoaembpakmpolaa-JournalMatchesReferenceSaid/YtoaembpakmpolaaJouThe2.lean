/-
  Plain laws on frames: torn and damaged journals.
-/
import Derived.Test.YtoaembpakmpolaaJouThe
namespace Go.Proofs.Ytoaembpakmpolaa
namespace Jou
theorem framed_short {b : List UInt8} (h : Good b) (n : Nat) (hn : n < 8 + b.length) : framed ((frame b).take n) = none := by
  rw [frame_eq]
  match n, hn with
  | 0, _ => rfl
  | 1, _ => rfl
  | 2, _ => rfl
  | 3, _ => rfl
  | n + 4, hn =>
    simp only [List.take_succ_cons, framed, len_back h.2]
    have hl : ((csum b ++ b).take n).length = n := by rw [List.length_take, List.length_append, csum_len]; omega
    by_cases h4 : n ≤ 4
    · rw [if_pos (.inl (by rw [hl]; exact h4))]
    · rw [if_neg (by rw [hl]; simp; omega), if_pos (.inr (.inr (by rw [hl]; omega)))]
theorem ab_fst (l : List UInt8) : (ab l).1 = 1 + (l.map (·.toNat)).sum := by
  have : ∀ (l : List UInt8) (a b : Nat), (l.foldl (fun (p : Nat × Nat) x => (p.1 + x.toNat, p.2 + (p.1 + x.toNat))) (a, b)).1 = a + (l.map (·.toNat)).sum := by
    intro l
    induction l with
    | nil => intro a b; simp
    | cons x l ih => intro a b; rw [List.foldl_cons, ih]; simp; omega
  exact this l 1 0
theorem sum_set (l : List UInt8) (i : Nat) (hi : i < l.length) (v : UInt8) : ((l.set i v).map (·.toNat)).sum + l[i].toNat = (l.map (·.toNat)).sum + v.toNat := by
  induction l generalizing i with
  | nil => simp at hi
  | cons x l ih =>
    cases i with
    | zero => simp; omega
    | succ i =>
      have := ih i (by simpa using hi)
      simp at this ⊢
      omega
theorem lenB_inj {m n : Nat} (hm : m < 65536) (hn : n < 65536) (h : lenB m = lenB n) : m = n := by
  simp only [lenB, List.cons.injEq, ← UInt8.toNat_inj, UInt8.toNat_ofNat', and_true] at h
  omega
theorem csum_set (b : List UInt8) (i : Nat) (hi : i < b.length) (v : UInt8) (hv : v ≠ b[i]) : csum (b.set i v) ≠ csum b := by
  intro h
  unfold csum at h
  have h2 := (List.append_inj h (by simp [lenB])).2
  have h3 := lenB_inj (by omega) (by omega) h2
  rw [ab_fst, ab_fst] at h3
  have hs := sum_set b i hi v
  have h4 : v.toNat ≠ b[i].toNat := fun e => hv (UInt8.toNat_inj.1 e)
  have h5 := UInt8.toNat_lt v
  have h6 := UInt8.toNat_lt b[i]
  omega
theorem sub_ne {a b : UInt8} (h : a ≠ b) : (255 - a : UInt8) ≠ 255 - b := by
  intro e
  apply h
  have ha := UInt8.toNat_lt a
  have hb := UInt8.toNat_lt b
  have := congrArg UInt8.toNat e
  rw [UInt8.toNat_sub_of_le _ _ (by rw [UInt8.le_iff_toNat_le]; show _ ≤ 255; omega), UInt8.toNat_sub_of_le _ _ (by rw [UInt8.le_iff_toNat_le]; show _ ≤ 255; omega)] at this
  have h255 : (255 : UInt8).toNat = 255 := rfl
  rw [h255] at this
  apply UInt8.toNat_inj.1
  omega
theorem framed_damage {b : List UInt8} (h : Good b) (n : Nat) (hn : n < (frame b).length) (v : UInt8) (hv : v ≠ (frame b)[n]) (rest : List UInt8) : framed ((frame b ++ rest).set n v) = none := by
  have e := frame_eq b
  have hn' : n < 8 + b.length := by rw [← frame_len]; exact hn
  simp only [e] at hv
  rw [e]
  match n, hn, hn', hv with
  | 0, _, _, hv =>
    simp only [List.getElem_cons_zero] at hv
    simp only [List.cons_append, List.set_cons_zero, framed]
    rw [if_pos (.inr (.inl (sub_ne (Ne.symm hv))))]
  | 1, _, _, hv =>
    simp only [List.getElem_cons_succ, List.getElem_cons_zero] at hv
    simp only [List.cons_append, List.set_cons_succ, List.set_cons_zero, framed]
    rw [if_pos (.inr (.inr (sub_ne (Ne.symm hv))))]
  | 2, _, _, hv =>
    simp only [List.getElem_cons_succ, List.getElem_cons_zero] at hv
    simp only [List.cons_append, List.set_cons_succ, List.set_cons_zero, framed]
    rw [if_pos (.inr (.inl hv))]
  | 3, _, _, hv =>
    simp only [List.getElem_cons_succ, List.getElem_cons_zero] at hv
    simp only [List.cons_append, List.set_cons_succ, List.set_cons_zero, framed]
    rw [if_pos (.inr (.inr hv))]
  | n + 4, _, hn', hv =>
    simp only [List.getElem_cons_succ] at hv
    simp only [List.cons_append, List.set_cons_succ, framed, len_back h.2, List.length_set, List.length_append, csum_len]
    have hg := h.1
    rw [if_neg (by simp; omega), if_neg (by have := h.2; omega)]
    by_cases h4 : n < 4
    · have e1 : ((csum b ++ b ++ rest).set n v).drop 4 = b ++ rest := by
        rw [List.append_assoc, List.set_append_left _ _ (by rw [csum_len]; exact h4), List.drop_left' (by rw [List.length_set, csum_len])]
      have e2 : ((csum b ++ b ++ rest).set n v).take 4 = (csum b).set n v := by
        rw [List.append_assoc, List.set_append_left _ _ (by rw [csum_len]; exact h4), List.take_left' (by rw [List.length_set, csum_len])]
      rw [e1, e2, List.take_left, if_neg]
      intro hc
      have h5 : n < (csum b).length := by rw [csum_len]; exact h4
      have := congrArg (fun l => l[n]?) hc
      simp only [List.getElem?_set_self h5, List.getElem?_eq_getElem h5, Option.some.injEq] at this
      apply hv
      rw [List.getElem_append_left h5]
      exact this.symm
    · have h5 : n - 4 < b.length := by omega
      have e1 : ((csum b ++ b ++ rest).set n v).drop 4 = (b ++ rest).set (n - 4) v := by
        rw [List.append_assoc, List.set_append_right _ _ (by rw [csum_len]; omega), csum_len, List.drop_left' (csum_len b)]
      have e2 : ((csum b ++ b ++ rest).set n v).take 4 = csum b := by
        rw [List.append_assoc, List.set_append_right _ _ (by rw [csum_len]; omega), List.take_left' (csum_len b)]
      rw [e1, e2, List.set_append_left _ _ h5, List.take_left' (by rw [List.length_set]), if_neg]
      apply csum_set b (n - 4) h5
      intro hc
      apply hv
      rw [List.getElem_append_right (by rw [csum_len]; omega)]
      simp only [csum_len]
      exact hc
/-- How many frames are whole in so many bytes. -/
def whole : List (List UInt8) → Nat → Nat
  | [], _ => 0
  | b :: bs, n => if 8 + b.length ≤ n then 1 + whole bs (n - (8 + b.length)) else 0
theorem recsN_nil (n : Nat) : recsN n [] = [] := by cases n <;> rfl
theorem recs_torn (bs : List (List UInt8)) (hg : ∀ b ∈ bs, Good b) : ∀ m n, bs.length ≤ m → recsN m ((frs bs).take n) = bs.take (whole bs n) := by
  induction bs with
  | nil => intro m n _; simp [frs, recsN_nil]
  | cons b bs ih =>
    intro m n hm
    obtain ⟨m, rfl⟩ : ∃ k, m = k + 1 := ⟨m - 1, by simp at hm; omega⟩
    have e : frs (b :: bs) = frame b ++ frs bs := by simp [frs]
    rw [e, List.take_append]
    by_cases h : 8 + b.length ≤ n
    · rw [List.take_of_length_le (by rw [frame_len]; exact h), recsN_frame m (hg b (by simp)), frame_len, ih (fun x hx => hg x (by simp [hx])) m _ (by simpa using hm)]
      simp only [whole, if_pos h]
      rw [Nat.add_comm 1, List.take_succ_cons]
    · rw [show n - (frame b).length = 0 by rw [frame_len]; omega, List.take_zero, List.append_nil, recsN_succ, framed_short (hg b (by simp)) n (by omega)]
      simp [whole, h]
theorem recs_damage (bs : List (List UInt8)) (hg : ∀ b ∈ bs, Good b) : ∀ m n (hn : n < (frs bs).length) (v : UInt8), v ≠ (frs bs)[n] → bs.length ≤ m → recsN m ((frs bs).set n v) = bs.take (whole bs n) := by
  induction bs with
  | nil => intro m n hn; simp [frs] at hn
  | cons b bs ih =>
    intro m n hn v hv hm
    obtain ⟨m, rfl⟩ : ∃ k, m = k + 1 := ⟨m - 1, by simp at hm; omega⟩
    have e : frs (b :: bs) = frame b ++ frs bs := by simp [frs]
    by_cases h : 8 + b.length ≤ n
    · have hn2 : n - (frame b).length < (frs bs).length := by rw [e, List.length_append, frame_len] at hn; rw [frame_len]; omega
      have hv2 : v ≠ (frs bs)[n - (frame b).length] := by
        intro hc
        apply hv
        simp only [e]
        rw [List.getElem_append_right (by rw [frame_len]; exact h)]
        exact hc
      rw [e, List.set_append_right _ _ (by rw [frame_len]; exact h), recsN_frame m (hg b (by simp)), ih (fun x hx => hg x (by simp [hx])) m _ hn2 v hv2 (by simpa using hm), frame_len]
      simp only [whole, if_pos h]
      rw [Nat.add_comm 1, List.take_succ_cons]
    · have hn2 : n < (frame b).length := by rw [frame_len]; omega
      have hv2 : v ≠ (frame b)[n] := by
        intro hc
        apply hv
        simp only [e]
        rw [List.getElem_append_left hn2]
        exact hc
      rw [e, recsN_succ, framed_damage (hg b (by simp)) n hn2 v hv2]
      simp [whole, h]
theorem whole_le (bs : List (List UInt8)) : ∀ n, whole bs n ≤ bs.length := by
  induction bs with
  | nil => intro n; simp [whole]
  | cons b bs ih =>
    intro n
    unfold whole
    split
    · have := ih (n - (8 + b.length)); simp; omega
    · simp
/-- The count goes on from k. -/
theorem whole_step (bs : List (List UInt8)) : ∀ n k, k ≤ bs.length → offs bs k ≤ n → whole bs n = k + whole (bs.drop k) (n - offs bs k) := by
  induction bs with
  | nil => intro n k hk _; simp at hk; subst hk; simp [offs]
  | cons b bs ih =>
    intro n k hk ho
    cases k with
    | zero => simp [offs]
    | succ k =>
      have eo : offs (b :: bs) (k + 1) = 8 + b.length + offs bs k := by simp [offs]
      rw [eo] at ho ⊢
      have hb : 8 + b.length ≤ n := by omega
      rw [whole, if_pos hb, ih (n - (8 + b.length)) k (by simpa using hk) (by omega)]
      rw [show n - (8 + b.length) - offs bs k = n - (8 + b.length + offs bs k) by omega]
      simp
      omega
end Jou
end Go.Proofs.Ytoaembpakmpolaa
