/-
  What the reference of the journal computes, in plain Lean: entries read with a mark for what is missing; sums with a remainder at each step; frames compared whole.
-/
import Derived.Test.YtoaembpakmpolaaJouThe3
import Derived.Test.YtoaembpakmpolaaJouApp
namespace Go.Proofs.Ytoaembpakmpolaa
namespace Jou
def oneP (l : List UInt8) : Option (Nat × List UInt8) :=
  match l with
  | [] => none
  | k :: l => some (k.toNat, l)
def allP (b : List UInt8) : Option (Log × List UInt8) :=
  (oneP b).bind fun k => (numP k.2).bind fun n => (txtP n.2).bind fun t => (postP t.2).bind fun p => (recP p.2).bind fun r => (paperP r.2).bind fun q => (postP q.2).bind fun c => (numsP 2 c.2).bind fun d =>
    some (⟨k.1, n.1, t.1, p.1, r.1, q.1, c.1, d.1.getD 0 0, d.1.getD 1 0⟩, d.2)
theorem numsP_two (l : List UInt8) : numsP 2 l = (numP l).bind fun a => (numP a.2).bind fun b => some ([a.1, b.1], b.2) := by
  simp only [numsP]
  cases numP l with
  | none => rfl
  | some a =>
    obtain ⟨a, l⟩ := a
    simp only [Option.bind_some]
    cases numP l with
    | none => rfl
    | some b => rfl
theorem all_logP (b : List UInt8) : logP b = match allP b with
    | none => none
    | some (e, r) => if e.kind < 1 ∨ 8 < e.kind then none else if r.length > 0 then none else some e := by
  cases b with
  | nil => rfl
  | cons k l =>
    unfold allP
    simp only [oneP, Option.bind_some]
    by_cases hk : k.toNat < 1 ∨ 8 < k.toNat
    · have h1 : logP (k :: l) = none := by simp only [logP]; rw [if_pos hk]
      rw [h1]
      have hk' : (k.toNat : Int) < 1 ∨ 8 < (k.toNat : Int) := by omega
      split
      · rfl
      · rename_i e r h
        obtain ⟨x1, h1, h⟩ := bind_inv h
        obtain ⟨x2, h2, h⟩ := bind_inv h
        obtain ⟨x3, h3, h⟩ := bind_inv h
        obtain ⟨x4, h4, h⟩ := bind_inv h
        obtain ⟨x5, h5, h⟩ := bind_inv h
        obtain ⟨x6, h6, h⟩ := bind_inv h
        obtain ⟨x7, h7, h⟩ := bind_inv h
        cases h
        rw [if_pos hk']
    · have hk' : ¬ ((k.toNat : Int) < 1 ∨ 8 < (k.toNat : Int)) := by omega
      simp only [logP]
      rw [if_neg hk]
      simp only [Option.bind_eq_bind, numsP_two]
      cases numP l with
      | none => rfl
      | some x1 =>
        obtain ⟨x1, l1⟩ := x1
        simp only [Option.bind_some]
        cases txtP l1 with
        | none => rfl
        | some x2 =>
          obtain ⟨x2, l2⟩ := x2
          simp only [Option.bind_some]
          cases postP l2 with
          | none => rfl
          | some x3 =>
            obtain ⟨x3, l3⟩ := x3
            simp only [Option.bind_some]
            cases recP l3 with
            | none => rfl
            | some x4 =>
              obtain ⟨x4, l4⟩ := x4
              simp only [Option.bind_some]
              cases paperP l4 with
              | none => rfl
              | some x5 =>
                obtain ⟨x5, l5⟩ := x5
                simp only [Option.bind_some]
                cases postP l5 with
                | none => rfl
                | some x6 =>
                  obtain ⟨x6, l6⟩ := x6
                  simp only [Option.bind_some]
                  cases numP l6 with
                  | none => rfl
                  | some x7 =>
                    obtain ⟨x7, l7⟩ := x7
                    simp only [Option.bind_some]
                    cases numP l7 with
                    | none => rfl
                    | some x8 =>
                      obtain ⟨x8, l8⟩ := x8
                      simp only [Option.bind_some]
                      rw [if_neg hk']
                      rfl
theorem two {ns : List Int} (h : ns.length = 2) : ∃ a b, ns = [a, b] := by
  match ns, h with
  | [a, b], _ => exact ⟨a, b, rfl⟩
/-- What was read whole is the record of the entry, as far as it tells. -/
theorem all_log {b r : List UInt8} {e : Log} (h : allP b = some (e, r)) : b = logB e ++ r ∧ Tells e ∧ Log.Ok e ∧ 0 ≤ e.kind ∧ e.rcd.contents.length ≤ 65535 ∧ e.paper.path.length ≤ 65535 := by
  unfold allP at h
  obtain ⟨⟨k, l0⟩, h0, h⟩ := bind_inv h
  obtain ⟨⟨x1, l1⟩, h1, h⟩ := bind_inv h
  obtain ⟨⟨x2, l2⟩, h2, h⟩ := bind_inv h
  obtain ⟨⟨x3, l3⟩, h3, h⟩ := bind_inv h
  obtain ⟨⟨x4, l4⟩, h4, h⟩ := bind_inv h
  obtain ⟨⟨x5, l5⟩, h5, h⟩ := bind_inv h
  obtain ⟨⟨x6, l6⟩, h6, h⟩ := bind_inv h
  obtain ⟨⟨x7, l7⟩, h7, h⟩ := bind_inv h
  simp only at h h1 h2 h3 h4 h5 h6 h7
  cases h
  cases b with
  | nil => cases h0
  | cons k' b' =>
    simp only [oneP] at h0
    cases h0
    obtain ⟨rfl, k1⟩ := num_numP h1
    obtain ⟨rfl, k2⟩ := txt_txtP h2
    obtain ⟨rfl, k3, k4⟩ := post_postP h3
    obtain ⟨rfl, k5, k6, k7, k8⟩ := rec_recP h4
    obtain ⟨rfl, k9, k10, k11, k12, k13⟩ := paper_paperP h5
    obtain ⟨rfl, k14, k15⟩ := post_postP h6
    obtain ⟨rfl, k16, k17⟩ := nums_numsP _ h7
    obtain ⟨y1, y2, rfl⟩ := two k16
    simp only [List.mem_cons, List.not_mem_nil, or_false, forall_eq_or_imp, forall_eq] at k17
    obtain ⟨k17, k18⟩ := k17
    have hkb := UInt8.toNat_lt k'
    refine ⟨?_, ⟨k2, k3, ⟨k5, k7, k8⟩, ⟨k9, k11, k12⟩, k14⟩, ?_, by simp, k7, k12⟩
    · simp only [logB, numsB_cons, numsB_nil, List.append_assoc, List.cons_append, List.nil_append, List.append_nil, Int.toNat_natCast, UInt8.ofNat_toNat, List.getD_cons_zero, List.getD_cons_succ]
    · simp only [List.mem_cons, List.not_mem_nil, or_false, forall_eq_or_imp, forall_eq] at k4 k6 k10 k15
      obtain ⟨q1, q2, q3, q4⟩ := k4
      obtain ⟨u1, u2, u3, u4⟩ := k6
      obtain ⟨v1, v2, v3, v4, v5, v6, v7, v8⟩ := k10
      obtain ⟨z1, z2, z3, z4⟩ := k15
      constructor
      · exact ⟨by dsimp only; omega, by dsimp only; omega⟩
      · simpa using k1
      · simp [maxLen]; omega
      · exact ⟨by dsimp only; unfold maxLen; omega, q1, q2, q3, q4⟩
      · exact ⟨by simp only [List.mem_cons, List.not_mem_nil, or_false, forall_eq_or_imp, forall_eq]; exact ⟨u1, u2, u3, u4⟩, by simp [maxLen]; omega, by dsimp only; omega, fun s hs => by have := k8 s hs; unfold maxLen; omega⟩
      · refine ⟨by simp [maxLen]; omega, by simp only [List.mem_cons, List.not_mem_nil, or_false, forall_eq_or_imp, forall_eq]; exact ⟨v1, v2, v3, v4, v5, v6, v7⟩, by simp [maxLen]; omega, by simpa using v8, by dsimp only; omega, k13⟩
      · exact ⟨by dsimp only; unfold maxLen; omega, z1, z2, z3, z4⟩
      · simp only [List.mem_cons, List.not_mem_nil, or_false, forall_eq_or_imp, forall_eq]
        exact ⟨k17, k18⟩
/-- Decode, where the whole was read and nothing is left. -/
theorem dec_all {b : List UInt8} {e : Log} (h : allP b = some (e, [])) : decodeR b = if (encode e).isSome then (e, 0) else (zeroLog, 400) := by
  obtain ⟨hb, ht, _⟩ := all_log h
  rw [List.append_nil] at hb
  unfold decodeR Jou.decode
  rw [all_logP, h]
  simp only [List.length_nil, gt_iff_lt, Nat.lt_irrefl, if_false]
  by_cases hk : e.kind < 1 ∨ 8 < e.kind
  · rw [if_pos hk]
    have : encode e = none := by unfold encode; rw [if_pos hk]
    rw [this]
    simp
  · rw [if_neg hk]
    have he : encode e = logW e := by unfold encode; rw [if_neg hk]
    rw [he]
    by_cases hl : b.length > 3000
    · rw [if_pos hl]
      cases hw : logW e with
      | none => simp
      | some c =>
        obtain ⟨_, hc, hcl⟩ := (logW_iff e c).1 hw
        rw [hc, ← hb] at hcl
        omega
    · rw [if_neg hl]
      rw [(logW_iff e b).2 ⟨ht, hb, by omega⟩]
      simp
theorem dec_none {b : List UInt8} (h : ∀ e, allP b ≠ some (e, [])) : decodeR b = (zeroLog, 400) := by
  have : Jou.decode b = none := by
    unfold Jou.decode
    split
    · rfl
    · rw [all_logP]
      split
      · rfl
      · rename_i e r he
        split
        · rfl
        · split
          · rfl
          · rename_i h2
            have : r = [] := List.eq_nil_of_length_eq_zero (by omega)
            subst this
            exact absurd he (h e)
  unfold decodeR
  rw [this]
/-- The sums, with a remainder at each step. -/
def abM (l : List UInt8) : Nat × Nat := l.foldl (fun p x => ((p.1 + x.toNat) % 65521, (p.2 + (p.1 + x.toNat) % 65521) % 65521)) (1, 0)
theorem abM_snoc (l : List UInt8) (x : UInt8) : abM (l ++ [x]) = (((abM l).1 + x.toNat) % 65521, ((abM l).2 + ((abM l).1 + x.toNat) % 65521) % 65521) := by
  unfold abM
  rw [List.foldl_append, List.foldl_cons, List.foldl_nil]
theorem abM_take (l : List UInt8) (k : Nat) (h : k < l.length) : abM (l.take (k + 1)) = (((abM (l.take k)).1 + l[k].toNat) % 65521, ((abM (l.take k)).2 + ((abM (l.take k)).1 + l[k].toNat) % 65521) % 65521) := by
  rw [List.take_succ_eq_append_getElem h, abM_snoc]
theorem abM_eq (l : List UInt8) : ∀ k, k ≤ l.length → abM (l.take k) = ((ab (l.take k)).1 % 65521, (ab (l.take k)).2 % 65521) := by
  intro k
  induction k with
  | zero => intro _; simp [abM, ab]
  | succ k ih =>
    intro hk
    rw [abM_take l k hk, ab_take l k hk, ih (by omega)]
    simp only
    refine Prod.ext ?_ ?_
    · simp only; omega
    · simp only; omega
theorem abM_csum (l : List UInt8) : csum l = lenB (abM l).2 ++ lenB (abM l).1 := by
  have := abM_eq l l.length (Nat.le_refl _)
  rw [List.take_length] at this
  unfold csum
  rw [this]
theorem csum_len (l : List UInt8) : (csum l).length = 4 := rfl
theorem frame_len8 (b : List UInt8) : (frame b).length = b.length + 8 := by
  unfold frame
  simp only [List.length_append, List.length_map, csum_len]
  show 2 + 2 + 4 + b.length = _
  omega
theorem lenB_split (n : Nat) (a b : UInt8) (h : n < 65536) : lenB n = [a, b] ↔ n = a.toNat * 256 + b.toNat := by
  unfold lenB
  have ha := UInt8.toNat_lt a
  have hb := UInt8.toNat_lt b
  constructor
  · intro e
    injection e with e1 e2
    injection e2 with e2 _
    rw [← e1, ← e2, UInt8.toNat_ofNat', UInt8.toNat_ofNat']
    omega
  · rintro rfl
    congr 1
    · apply UInt8.toNat_inj.1; rw [UInt8.toNat_ofNat']; omega
    · congr 1
      apply UInt8.toNat_inj.1; rw [UInt8.toNat_ofNat']; omega
/-- first: bytes that begin with the frame of a record. -/
theorem framed_iff (j : List UInt8) (r : List UInt8) : framed j = some r ↔ 1 ≤ r.length ∧ r.length ≤ 3000 ∧ j.take (r.length + 8) = frame r := by
  constructor
  · intro h
    match j, h with
    | a :: b :: c :: d :: t, h =>
      simp only [framed] at h
      by_cases h1 : t.length ≤ 4 ∨ c ≠ 255 - a ∨ d ≠ 255 - b
      · rw [if_pos h1] at h; cases h
      · rw [if_neg h1] at h
        have hc : c = 255 - a := Classical.byContradiction fun e => h1 (.inr (.inl e))
        have hd : d = 255 - b := Classical.byContradiction fun e => h1 (.inr (.inr e))
        have ht : 4 < t.length := Nat.lt_of_not_le fun e => h1 (.inl e)
        by_cases h2 : a.toNat * 256 + b.toNat < 1 ∨ 3000 < a.toNat * 256 + b.toNat ∨ t.length < a.toNat * 256 + b.toNat + 4
        · rw [if_pos h2] at h; cases h
        · rw [if_neg h2] at h
          by_cases h3 : csum ((t.drop 4).take (a.toNat * 256 + b.toNat)) = t.take 4
          · rw [if_pos h3] at h
            injection h with h
            have hl : r.length = a.toNat * 256 + b.toNat := by rw [← h, List.length_take, List.length_drop]; omega
            refine ⟨by omega, by omega, ?_⟩
            have e1 : lenB r.length = [a, b] := (lenB_split _ a b (by omega)).2 hl
            unfold frame
            rw [e1, hc, hd]
            have h3' : csum r = t.take 4 := by rw [← h3, h]
            rw [h3']
            have hr : r = (t.drop 4).take (a.toNat * 256 + b.toNat) := h.symm
            simp only [List.map_cons, List.map_nil, List.cons_append, List.nil_append]
            rw [show r.length + 8 = (r.length + 4) + 1 + 1 + 1 + 1 by omega]
            simp only [List.take_succ_cons]
            congr 4
            rw [hl, Nat.add_comm, List.take_add, ← hr]
          · rw [if_neg h3] at h; cases h
  · rintro ⟨h1, h2, h3⟩
    have hl := congrArg List.length h3
    rw [List.length_take, frame_len8] at hl
    obtain ⟨t, ht⟩ : ∃ t, j = frame r ++ t := ⟨j.drop (r.length + 8), by rw [← h3, List.take_append_drop]⟩
    obtain ⟨a, b, hab⟩ : ∃ a b, lenB r.length = [a, b] := ⟨_, _, rfl⟩
    have hn := (lenB_split _ a b (by omega)).1 hab
    subst ht
    unfold frame
    rw [hab]
    simp only [List.map_cons, List.map_nil, List.cons_append, List.nil_append, List.append_assoc]
    have hc4 := csum_len r
    simp only [framed]
    rw [if_neg (by simp only [List.length_append, hc4]; simp; omega), if_neg (by simp only [List.length_append, hc4]; omega), ← hn]
    have e1 : (csum r ++ (r ++ t)).drop 4 = r ++ t := by rw [← hc4, List.drop_left]
    have e2 : (csum r ++ (r ++ t)).take 4 = csum r := by rw [← hc4, List.take_left]
    rw [e1, e2, List.take_left, if_pos rfl]
end Jou
end Go.Proofs.Ytoaembpakmpolaa
