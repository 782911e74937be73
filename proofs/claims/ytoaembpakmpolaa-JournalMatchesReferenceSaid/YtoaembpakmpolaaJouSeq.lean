/-
  The iterator journal.frames: it yields the complete records of a journal.
-/
import Derived.Test.YtoaembpakmpolaaJouFr
import Derived.Test.YtoaembpakmpolaaSeq
namespace Go.Proofs.Ytoaembpakmpolaa
open Go.RowKit Jou Go.Shelf
attribute [local go_sem] ba_get ba_extract ba_append Oper.semAt_some
namespace Jou
def recsN : Nat → List UInt8 → List (List UInt8)
  | 0, _ => []
  | n + 1, j =>
    match framed j with
    | none => []
    | some r => r :: recsN n (j.drop (8 + r.length))
/-- The complete records of a journal. -/
def recs (j : List UInt8) : List (List UInt8) := recsN 500 j
/-- The bytes of the first k records, frames and all. -/
def offs (rs : List (List UInt8)) (k : Nat) : Nat := ((rs.take k).map fun r => 8 + r.length).sum
theorem offs_zero (rs : List (List UInt8)) : offs rs 0 = 0 := by simp [offs]
theorem offs_succ (rs : List (List UInt8)) (k : Nat) (h : k < rs.length) : offs rs (k + 1) = offs rs k + (8 + rs[k].length) := by
  unfold offs
  rw [List.take_succ_eq_append_getElem h, List.map_append, List.sum_append]
  simp
theorem framed_take {j r : List UInt8} (h : framed j = some r) : r = (j.drop 8).take r.length ∧ 8 + r.length ≤ j.length ∧ 1 ≤ r.length ∧ r.length ≤ 3000 := by
  match j, h with
  | a :: b :: c :: d :: t, h =>
    simp only [framed] at h
    by_cases h1 : t.length ≤ 4 ∨ c ≠ 255 - a ∨ d ≠ 255 - b
    · rw [if_pos h1] at h; cases h
    · rw [if_neg h1] at h
      by_cases h2 : a.toNat * 256 + b.toNat < 1 ∨ 3000 < a.toNat * 256 + b.toNat ∨ t.length < a.toNat * 256 + b.toNat + 4
      · rw [if_pos h2] at h; cases h
      · rw [if_neg h2] at h
        by_cases h3 : csum ((t.drop 4).take (a.toNat * 256 + b.toNat)) = t.take 4
        · rw [if_pos h3] at h
          cases h
          simp only [List.length_take, List.length_drop, List.length_cons, List.drop_succ_cons]
          refine ⟨?_, by omega, by omega, by omega⟩
          rw [Nat.min_eq_left (by omega)]
        · rw [if_neg h3] at h; cases h
theorem recsN_le (n : Nat) (j : List UInt8) : (recsN n j).length ≤ n := by
  induction n generalizing j with
  | zero => simp [recsN]
  | succ n ih =>
    unfold recsN
    split
    · simp
    · simp; exact ih _
/-- The k-th record, and what comes behind it. -/
theorem recsN_at (n : Nat) (j : List UInt8) : ∀ k, k ≤ (recsN n j).length → offs (recsN n j) k ≤ j.length ∧ recsN (n - k) (j.drop (offs (recsN n j) k)) = (recsN n j).drop k := by
  induction n generalizing j with
  | zero =>
    intro k hk
    have : k = 0 := by simpa [recsN] using hk
    subst this
    simp [offs, recsN]
  | succ n ih =>
    intro k hk
    cases k with
    | zero => simp [offs]
    | succ k =>
      cases hf : framed j with
      | none =>
        simp [recsN, hf] at hk
      | some r =>
        have hr := framed_take hf
        have e : recsN (n + 1) j = r :: recsN n (j.drop (8 + r.length)) := by simp [recsN, hf]
        rw [e] at hk ⊢
        have := ih (j.drop (8 + r.length)) k (by simpa using hk)
        have eo : offs (r :: recsN n (j.drop (8 + r.length))) (k + 1) = 8 + r.length + offs (recsN n (j.drop (8 + r.length))) k := by simp [offs]
        rw [eo]
        refine ⟨by have := this.1; rw [List.length_drop] at this; omega, ?_⟩
        rw [show n + 1 - (k + 1) = n - k by omega, ← List.drop_drop, this.2]
        simp
theorem recsN_succ (n : Nat) (j : List UInt8) : recsN (n + 1) j = match framed j with | none => [] | some r => r :: recsN n (j.drop (8 + r.length)) := rfl
theorem recsN_get (n : Nat) (j : List UInt8) (k : Nat) (h : k < (recsN n j).length) : framed (j.drop (offs (recsN n j) k)) = some (recsN n j)[k] := by
  have h5 := recsN_le n j
  have hk := (recsN_at n j k (Nat.le_of_lt h)).2
  rw [List.drop_eq_getElem_cons h] at hk
  obtain ⟨m, hm⟩ : ∃ m, n - k = m + 1 := ⟨n - k - 1, by omega⟩
  rw [hm, recsN_succ] at hk
  split at hk
  · cases hk
  · rename_i r hr
    simp only [List.cons.injEq] at hk
    rw [hr, hk.1]
theorem recsN_end (n : Nat) (j : List UInt8) (h : (recsN n j).length < n) : framed (j.drop (offs (recsN n j) (recsN n j).length)) = none := by
  have hk := (recsN_at n j _ (Nat.le_refl _)).2
  rw [List.drop_length] at hk
  obtain ⟨m, hm⟩ : ∃ m, n - (recsN n j).length = m + 1 := ⟨n - (recsN n j).length - 1, by omega⟩
  rw [hm, recsN_succ] at hk
  split at hk
  · assumption
  · cases hk
theorem recs_at (j : List UInt8) (k : Nat) (h : k < (recs j).length) : framed (j.drop (offs (recs j) k)) = some (recs j)[k] := recsN_get 500 j k h
theorem recs_end (j : List UInt8) (h : (recs j).length < 500) : framed (j.drop (offs (recs j) (recs j).length)) = none := recsN_end 500 j h
theorem recs_le (j : List UInt8) : (recs j).length ≤ 500 := recsN_le 500 j
theorem offs_le (j : List UInt8) (k : Nat) (h : k ≤ (recs j).length) : offs (recs j) k ≤ j.length := (recsN_at 500 j k h).1
end Jou
/-- Where the k-th record lies. -/
def recV (j : List UInt8) (A : Option Addr) (c k : Nat) : Value := .slice (A.map fun x => x.add (offs (recs j) k + 8)) ((recs j)[k]?.getD []).length (c - (offs (recs j) k + 8))
/-- The iterator's state behind k rounds. -/
def FSt (j : List UInt8) (A : Option Addr) (c q k : Nat) (A' : Option Addr) (W : World) : Prop :=
  W.heap[q]? = some (.cells #[.slice A' (j.length - offs (recs j) k) (c - offs (recs j) k)] 38 (0, 0)) ∧ Rd W A (j.map bV) ∧ (j.length = offs (recs j) k ∨ A' = A.map fun x => x.add (offs (recs j) k))
theorem FSt.keep {j : List UInt8} {A : Option Addr} {c q k : Nat} {A' : Option Addr} {W W' : World} (h : FSt j A c q k A' W) (hz : W.heap.size ≤ W'.heap.size) (hk : Keep (q :: (A.map (·.block)).toList) W W') : FSt j A c q k A' W' := by
  refine ⟨(hk q (by simp)).trans h.1, h.2.1.same hz (fun a ha _ => hk _ (by simp [ha])), h.2.2⟩
theorem FSt.below {j : List UInt8} {A : Option Addr} {c q k : Nat} {A' : Option Addr} {W W' : World} (h : FSt j A c q k A' W) (hb : Below W.heap.size W W') : FSt j A c q k A' W' :=
  ⟨(hb.block q (block_lt h.1)).trans h.1, h.2.1.below hb, h.2.2⟩
theorem FSt.rd {j : List UInt8} {A : Option Addr} {c q k : Nat} {A' : Option Addr} {W : World} (h : FSt j A c q k A' W) : Rd W A' ((j.drop (offs (recs j) k)).map bV) := by
  rcases h.2.2 with h2 | rfl
  · rw [h2.symm, List.drop_length]; exact Rd.nil _ _
  · rw [List.map_drop]; exact h.2.1.dropA _
theorem addr_of {j : List UInt8} {A : Option Addr} {W : World} (h : Rd W A (j.map bV)) (hj : 0 < j.length) : ∃ b off, A = some ⟨b, off, none⟩ := by
  obtain ⟨b, off, h, _⟩ := h.get (i := 0) (by simpa using hj)
  exact ⟨b, off, h⟩
theorem framed_st {j : List UInt8} {A : Option Addr} {c q k : Nat} {A' : Option Addr} {W : World} (h : FSt j A c q k A' W) (hk : k ≤ (recs j).length) (hk5 : k < 500) (hc : j.length ≤ c) (hm : c ≤ maxLen) :
    Calls Try.prog 65 #[.slice A' (j.length - offs (recs j) k) (c - offs (recs j) k)] W fun e W' => Below W.heap.size W W' ∧
      if k < (recs j).length then e = .returned (.tuple #[recV j A c k, .bool true]) else ∃ v, e = .returned (.tuple #[v, .bool false]) := by
  have := framed_any (j.drop (offs (recs j) k)) A' (c - offs (recs j) k) W h.rd (by rw [List.length_drop]; omega) (by omega)
  rw [List.length_drop] at this
  refine this.mono ?_
  rintro e W' ⟨hb, he⟩
  refine ⟨hb, ?_⟩
  by_cases hlt : k < (recs j).length
  · rw [if_pos hlt]
    rw [recs_at j k hlt] at he
    have hf := framed_take (recs_at j k hlt)
    rw [List.length_drop] at hf
    obtain ⟨b, off, rfl⟩ := addr_of h.2.1 (by omega)
    have h2 := h.2.2
    rcases h2 with h2 | rfl
    · omega
    · rw [he, recV, List.getElem?_eq_getElem hlt]
      simp [add_at, Nat.add_assoc, Nat.sub_sub]
  · rw [if_neg hlt]
    obtain rfl : k = (recs j).length := by omega
    rw [recs_end j hk5] at he
    exact he
theorem FSt.next {j : List UInt8} {A : Option Addr} {c q k : Nat} {A' : Option Addr} {W : World} (h : FSt j A c q k A' W) (hk : k < (recs j).length) (hc : j.length ≤ c) (hl : Low q A) :
    FSt j A c q (k + 1) (if c - offs (recs j) k = 8 + (recs j)[k].length then A' else A'.map fun x => x.add (8 + (recs j)[k].length))
      (W.setCell ⟨q, 0, none⟩ (.slice (if c - offs (recs j) k = 8 + (recs j)[k].length then A' else A'.map fun x => x.add (8 + (recs j)[k].length)) (j.length - offs (recs j) k - (8 + (recs j)[k].length)) (c - offs (recs j) k - (8 + (recs j)[k].length)))) := by
  have ho := offs_succ (recs j) k hk
  have hf := framed_take (recs_at j k hk)
  rw [List.length_drop] at hf
  refine ⟨?_, rd_set h.2.1 (fun a ha => by have := hl a ha; omega) _ _, ?_⟩
  · have := row_set h.1 0 (.slice (if c - offs (recs j) k = 8 + (recs j)[k].length then A' else A'.map fun x => x.add (8 + (recs j)[k].length)) (j.length - offs (recs j) k - (8 + (recs j)[k].length)) (c - offs (recs j) k - (8 + (recs j)[k].length)))
    rw [this, ho, Nat.sub_sub, Nat.sub_sub]
    rfl
  · rw [ho]
    obtain ⟨b, off, rfl⟩ := addr_of h.2.1 (by omega)
    by_cases he : c - offs (recs j) k = 8 + (recs j)[k].length
    · left; omega
    · rw [if_neg he]
      rcases h.2.2 with h2 | rfl
      · omega
      · right; simp [add_at, Nat.add_assoc]
set_option maxHeartbeats 4000000 in
set_option maxRecDepth 100000 in
theorem frames_seq (j : List UInt8) (A : Option Addr) (c q : Nat) (w : World) (hA : Rd w A (j.map bV)) (hl : Low q A) (hc : j.length ≤ c) (hm : c ≤ maxLen)
    (hq : w.heap[q]? = some (.cells #[.slice A j.length c] 38 (0, 0))) :
    SeqN Try.prog 64 #[.pointer (some ⟨q, 0, none⟩)] (recs j).length q (fun k => #[recV j A c k]) (q :: (A.map (·.block)).toList) w := by
  intro l J Jp hJ hY W hK hz hJ0
  have hk5 := recs_le j
  have hS0 : FSt j A c q 0 A W := by
    refine FSt.keep ⟨?_, hA, ?_⟩ hz hK
    · rw [offs_zero]; exact hq
    · right; rw [offs_zero]
      cases A with
      | none => rfl
      | some a => simp [Addr.add]
  have HJ := Lib.hid hJ; clear hJ
  have HY := Lib.hid hY; clear hY
  have HS0 := Lib.hid hS0; clear hS0
  have HC := Lib.hid hc; clear hc
  have HM := Lib.hid hm
  have HL := Lib.hid hl; clear hl
  unfold maxLen at hm
  clear hK hz hq hA
  refine callsIn_of_wp Try.func64 rfl trivial ?_ rfl
  simp only [Try.ntmps64, List.size_toArray, List.length_cons, List.length_nil, Nat.reduceAdd, Nat.reduceSub, Array.replicate_succ, Array.replicate_zero, List.push_toArray, List.append_toArray, List.nil_append, List.cons_append]
  gi_wp2
  gi_loopw [5] (fun i wr => ∃ (k : Nat) (A' : Option Addr), k ≤ (recs j).length ∧ i = iV k ∧ J k wr ∧ FSt j A c q k A' wr) (fun i _ => 500 - (intOf i).toNat)
  case atStart => exact ⟨0, A, Nat.zero_le _, rfl, hJ0, HS0.out⟩
  case round =>
    obtain ⟨k, A', hk, rfl, hj, hS⟩ := hrel
    have HS := Lib.hid hS; clear hS
    have HJK := Lib.hid hj; clear hj
    by_cases h5 : k < 500
    · have h5' : (k : Int) < 500 := by omega
      have cq : wr.cell? ⟨q, 0, none⟩ = some (.slice A' (j.length - offs (recs j) k) (c - offs (recs j) k)) := cell_of_row _ _ 0 _ _ _ HS.out.1
      have CF : Hid (Calls Try.prog 65 _ wr _) := framed_st HS.out hk h5 HC.out HM.out
      by_cases hlt : k < (recs j).length
      · gi_wp2_with (refine ⟨trivial, ?_⟩; gi_at_call 65; refine (callsIn_wide.2 CF.out).mono ?_; rintro e w1 ⟨hb, he⟩; rw [if_pos hlt] at he; subst he; clear cq)
        obtain ⟨fn, tmps, assign, body, hy, hR⟩ := HY.out k w1 hlt (HJ.out k wr w1 HJK.out (grown_of_below hb (some q)))
        have HS1 := Lib.hid (HS.out.below hb)
        clear HS HJK CF hb
        have hrv : Hid (recV j A c k = .slice (A.map fun x => x.add (offs (recs j) k + 8)) (recs j)[k].length (c - (offs (recs j) k + 8))) := by
          show _ = _
          rw [recV, List.getElem?_eq_getElem hlt]
          rfl
        have hfr := framed_take (recs_at j k hlt)
        rw [List.length_drop] at hfr
        obtain ⟨-, hf1, hf2, hf3⟩ := hfr
        rw [hy]
        gi_wp2
        refine hR.mono ?_
        clear hy hR
        rintro e W3 (⟨rfl, hj3, hz3, hk3⟩ | ⟨ch, rfl, hp⟩)
        · have HS3 := Lib.hid (HS1.out.keep hz3 hk3)
          have HJ3 := Lib.hid hj3
          clear hj3 hz3 hk3 HS1
          rw [hrv.out]
          have HN := Lib.hid (HS3.out.next hlt HC.out HL.out)
          have c3 : W3.cell? ⟨q, 0, none⟩ = some (.slice A' (j.length - offs (recs j) k) (c - offs (recs j) k)) := cell_of_row _ _ 0 _ _ _ HS3.out.1
          have f3 : W3.frozen? ⟨q, 0, none⟩ = false := frozen_row HS3.out.1 0
          have hcj := HC.out
          obtain ⟨n, hn⟩ : ∃ n, n = (recs j)[k].length := ⟨_, rfl⟩
          obtain ⟨o, ho⟩ : ∃ o, o = offs (recs j) k := ⟨_, rfl⟩
          rw [← hn, ← ho] at HN
          rw [← ho] at c3
          rw [← hn, ← ho]
          rw [← hn] at hf1 hf2 hf3
          rw [← ho] at hf1
          clear hn ho hrv
          by_cases hcap : c - o = 8 + n
          · rw [if_pos hcap] at HN
            have g1 : (8 : Int) + (n : Int) ≤ ((j.length - o : Nat) : Int) := by omega
            rw [hcap, Nat.sub_self] at HN
            gi_wp2
            exact ⟨⟨k + 1, _, hlt, by go_num, HJ.out (k + 1) W3 _ HJ3.out (g_set W3 q 0 _), HN.out⟩, by simp [intOf]; omega⟩
          · rw [if_neg hcap] at HN
            have g1 : (8 : Int) + (n : Int) ≤ ((j.length - o : Nat) : Int) := by omega
            gi_wp2
            exact ⟨⟨k + 1, _, hlt, by go_num, HJ.out (k + 1) W3 _ HJ3.out (g_set W3 q 0 _), HN.out⟩, by simp [intOf]; omega⟩
        · exact ⟨rfl, .inr ⟨ch, rfl, hp⟩⟩
      · obtain rfl : k = (recs j).length := by omega
        gi_wp2_with (refine ⟨trivial, ?_⟩; gi_at_call 65; refine (callsIn_wide.2 CF.out).mono ?_; rintro e w1 ⟨hb, he⟩; rw [if_neg hlt] at he; obtain ⟨v, rfl⟩ := he; clear cq)
        refine ⟨fun _ h => (by cases h), ?_⟩
        gi_wp2
        refine bodyPost_ret (results_none rfl _ _ _) rfl ?_
        exact .inl ⟨⟨_, rfl⟩, HJ.out _ wr w1 HJK.out (grown_of_below hb (some q))⟩
    · obtain rfl : k = (recs j).length := by omega
      have h5' : ¬ (((recs j).length : Nat) : Int) < 500 := by omega
      gi_wp2
      go_end0
      exact .inl ⟨⟨_, rfl⟩, HJK.out⟩
/-- journal.frames makes the iterator. -/
theorem frames_any (A : Option Addr) (n c : Nat) (w : World) : Calls Try.prog 36 #[.slice A n c] w fun e w' => e = .returned (.func (.func 64) #[] #[.pointer (some ⟨w.heap.size, 0, none⟩)]) ∧ w' = w.alloc (.cells #[.slice A n c] 38) := by
  have hmf : ∀ (fn : Fn) (first cap : Array Value) (w : World), (Instr.makeFunc fn first cap).run Try.prog w = .ok (.func fn first cap) w := fun _ _ _ _ => rfl
  go_enter Try.func36, Try.ntmps36
  go_wp2
  go_ret
  exact ⟨rfl, rfl⟩
end Go.Proofs.Ytoaembpakmpolaa
