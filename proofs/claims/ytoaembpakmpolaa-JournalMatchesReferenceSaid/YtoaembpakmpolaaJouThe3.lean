/-
  Plain laws on entries: an entry is read from its record, and a record is that of the entry that is read.
-/
import Derived.Test.YtoaembpakmpolaaJouShort
namespace Go.Proofs.Ytoaembpakmpolaa
namespace Jou
open Classical in
/-- A step of the writer's: it adds B, where P holds and there is room. -/
def Adds (f : Option (List UInt8) → Option (List UInt8)) (B : List UInt8) (P : Prop) : Prop :=
  f none = none ∧ ∀ l, l.length ≤ 3000 → f (some l) = if P ∧ (l ++ B).length ≤ 3000 then some (l ++ B) else none
theorem Adds.comp {f g : Option (List UInt8) → Option (List UInt8)} {B C : List UInt8} {P Q : Prop} (h : Adds f B P) (k : Adds g C Q) : Adds (fun s => g (f s)) (B ++ C) (P ∧ Q) := by
  refine ⟨by show g (f none) = none; rw [h.1, k.1], fun l hl => ?_⟩
  show g (f (some l)) = _
  rw [h.2 l hl]
  by_cases hp : P ∧ (l ++ B).length ≤ 3000
  · rw [if_pos hp, k.2 _ hp.2]
    by_cases hq : Q ∧ (l ++ B ++ C).length ≤ 3000
    · rw [if_pos hq, if_pos ⟨⟨hp.1, hq.1⟩, by rw [← List.append_assoc]; exact hq.2⟩, List.append_assoc]
    · rw [if_neg hq, if_neg]
      rintro ⟨⟨_, h1⟩, h2⟩
      exact hq ⟨h1, by rw [List.append_assoc]; exact h2⟩
  · rw [if_neg hp, k.1, if_neg]
    rintro ⟨⟨h1, _⟩, h2⟩
    refine hp ⟨h1, ?_⟩
    simp only [List.length_append] at h2 ⊢
    omega
theorem adds_put (b : List UInt8) : Adds (fun s => put s b) b True := by
  refine ⟨rfl, fun l hl => ?_⟩
  simp only [put, List.length_append, true_and]
theorem Adds.imp {f : Option (List UInt8) → Option (List UInt8)} {B : List UInt8} {P Q : Prop} (h : Adds f B P) (hpq : P ↔ Q) : Adds f B Q := by
  have : P = Q := propext hpq
  rwa [this] at h
theorem adds_len (n : Nat) : Adds (fun s => lenW s n) (lenB n) (n ≤ 65535) := by
  refine ⟨lenW_none n, fun l hl => ?_⟩
  simp only [lenW]
  by_cases hn : n ≤ 65535
  · have h := (adds_put (lenB n)).2 l hl
    change put (some l) (lenB n) = _ at h
    rw [if_pos hn, h]
    simp only [true_and, hn]
  · rw [if_neg hn, if_neg (fun h => hn h.1)]
def txtB (s : List UInt8) : List UInt8 := lenB s.length ++ s
theorem adds_txt (s : List UInt8) : Adds (fun st => txtW st s) (txtB s) (s.length ≤ 65535) :=
  ((adds_len s.length).comp (adds_put s)).imp (by simp)
def txtsB (ss : List (List UInt8)) : List UInt8 := ss.flatMap txtB
theorem adds_txts : ∀ ss : List (List UInt8), Adds (fun st => txtsW st ss) (txtsB ss) (∀ s ∈ ss, s.length ≤ 65535)
  | [] => ⟨rfl, fun l hl => by
      show some l = _
      rw [if_pos ⟨by simp, by simpa [txtsB] using hl⟩]
      simp [txtsB]⟩
  | s :: ss => by
    have := ((adds_txt s).comp (adds_txts ss)).imp (Q := ∀ x ∈ s :: ss, x.length ≤ 65535) (by simp)
    have e : txtsB (s :: ss) = txtB s ++ txtsB ss := by simp [txtsB]
    rw [e]
    exact this
theorem adds_nums (ns : List Int) : Adds (fun st => numsW st ns) (numsB ns) True := adds_put _
def postB (p : Post) : List UInt8 := txtB p.label ++ numsB [p.frm, p.to, p.cls, p.acc]
theorem adds_post (p : Post) : Adds (fun st => postW st p) (postB p) (p.label.length ≤ 65535) := ((adds_txt p.label).comp (adds_nums _)).imp (by simp)
def recB (r : Rec) : List UInt8 := numsB [r.scanner, r.number, r.kind, r.time] ++ txtB r.label ++ lenB r.contents.length ++ txtsB r.contents
theorem adds_rec (r : Rec) : Adds (fun st => recW st r) (recB r) (r.label.length ≤ 65535 ∧ r.contents.length ≤ 65535 ∧ ∀ s ∈ r.contents, s.length ≤ 65535) :=
  ((((adds_nums _).comp (adds_txt r.label)).comp (adds_len r.contents.length)).comp (adds_txts r.contents)).imp (by simp [and_assoc])
def paperB (p : Paper) : List UInt8 := txtB p.sl ++ numsB [p.frm, p.to, p.time, p.count, p.root, p.give, p.take] ++ txtB p.label ++ numsB [p.index] ++ lenB p.path.length ++ numsB p.path
theorem adds_paper (p : Paper) : Adds (fun st => paperW st p) (paperB p) (p.sl.length ≤ 65535 ∧ p.label.length ≤ 65535 ∧ p.path.length ≤ 65535) :=
  ((((((adds_txt p.sl).comp (adds_nums _)).comp (adds_txt p.label)).comp (adds_nums _)).comp (adds_len p.path.length)).comp (adds_nums p.path)).imp (by simp [and_assoc])
/-- The lengths that a record can tell. -/
def Tells (e : Log) : Prop := e.text.length ≤ 65535 ∧ e.post.label.length ≤ 65535 ∧ (e.rcd.label.length ≤ 65535 ∧ e.rcd.contents.length ≤ 65535 ∧ ∀ s ∈ e.rcd.contents, s.length ≤ 65535) ∧ (e.paper.sl.length ≤ 65535 ∧ e.paper.label.length ≤ 65535 ∧ e.paper.path.length ≤ 65535) ∧ e.cpost.label.length ≤ 65535
def logB (e : Log) : List UInt8 := [UInt8.ofNat e.kind.toNat] ++ numsB [e.n] ++ txtB e.text ++ postB e.post ++ recB e.rcd ++ paperB e.paper ++ postB e.cpost ++ numsB [e.due, e.amount]
open Classical in
theorem logW_iff (e : Log) (c : List UInt8) : logW e = some c ↔ Tells e ∧ c = logB e ∧ c.length ≤ 3000 := by
  have h := ((((((((adds_put [UInt8.ofNat e.kind.toNat]).comp (adds_nums [e.n])).comp (adds_txt e.text)).comp (adds_post e.post)).comp (adds_rec e.rcd)).comp (adds_paper e.paper)).comp (adds_post e.cpost)).comp (adds_nums [e.due, e.amount])).imp (Q := Tells e) (by simp [Tells, and_assoc])
  have h2 := h.2 [] (by simp)
  simp only [List.nil_append] at h2
  change logW e = if Tells e ∧ (logB e).length ≤ 3000 then some (logB e) else none at h2
  rw [h2]
  by_cases hc : Tells e ∧ (logB e).length ≤ 3000
  · rw [if_pos hc]
    constructor
    · intro h; cases h; exact ⟨hc.1, rfl, hc.2⟩
    · rintro ⟨_, rfl, _⟩; rfl
  · rw [if_neg hc]
    constructor
    · intro h; cases h
    · rintro ⟨h1, rfl, h3⟩; exact (hc ⟨h1, h3⟩).elim
/-! The reader. -/
theorem take8 (l : List UInt8) (h : 8 ≤ l.length) : ∃ a b c d e f g i r, l = a :: b :: c :: d :: e :: f :: g :: i :: r := by
  match l, h with
  | a :: b :: c :: d :: e :: f :: g :: i :: r, _ => exact ⟨a, b, c, d, e, f, g, i, r, rfl⟩
theorem ofI_toI (m : Nat) (h : m < 18446744073709551616) : ofI (toI m) = m := by
  unfold ofI toI
  split <;> omega
theorem toI_ofI (n : Int) (h : I64 n) : toI (ofI n) = n := by
  unfold ofI toI
  have h1 := h.1
  have h2 := h.2
  split <;> omega
theorem toI_i64 (m : Nat) (h : m < 18446744073709551616) : I64 (toI m) := by
  unfold I64 toI
  split <;> omega
theorem ofI_lt (n : Int) : ofI n < 18446744073709551616 := by unfold ofI; omega
theorem be8 (a b c d e f g i : UInt8) : be [a, b, c, d, e, f, g, i] = ((((((a.toNat * 256 + b.toNat) * 256 + c.toNat) * 256 + d.toNat) * 256 + e.toNat) * 256 + f.toNat) * 256 + g.toNat) * 256 + i.toNat := by
  simp [be]
theorem be_num (n : Int) : be (numB n) = ofI n := by
  have h := ofI_lt n
  unfold numB
  rw [be8]
  simp only [byteAt, UInt8.toNat_ofNat', Nat.reducePow]
  omega
theorem num_be (a b c d e f g i : UInt8) : numB (toI (be [a, b, c, d, e, f, g, i])) = [a, b, c, d, e, f, g, i] := by
  have ha := UInt8.toNat_lt a
  have hb := UInt8.toNat_lt b
  have hc := UInt8.toNat_lt c
  have hd := UInt8.toNat_lt d
  have he := UInt8.toNat_lt e
  have hf := UInt8.toNat_lt f
  have hg := UInt8.toNat_lt g
  have hi := UInt8.toNat_lt i
  have hm : be [a, b, c, d, e, f, g, i] < 18446744073709551616 := by rw [be8]; omega
  unfold numB
  rw [ofI_toI _ hm, be8]
  simp only [byteAt, List.cons.injEq, and_true, ← UInt8.toNat_inj, UInt8.toNat_ofNat', Nat.reducePow]
  refine ⟨?_, ?_, ?_, ?_, ?_, ?_, ?_, ?_⟩ <;> omega
theorem numP_num (n : Int) (h : I64 n) (r : List UInt8) : numP (numB n ++ r) = some (n, r) := by
  have hl : (numB n).length = 8 := rfl
  unfold numP
  rw [if_pos (by rw [List.length_append, hl]; omega), List.take_left' hl, List.drop_left' hl, be_num, toI_ofI n h]
theorem num_numP {l r : List UInt8} {n : Int} (h : numP l = some (n, r)) : l = numB n ++ r ∧ I64 n := by
  unfold numP at h
  by_cases h8 : 8 ≤ l.length
  · rw [if_pos h8] at h
    obtain ⟨a, b, c, d, e, f, g, i, t, rfl⟩ := take8 l h8
    simp only [List.take_succ_cons, List.take_zero, List.drop_succ_cons, List.drop_zero, Option.some.injEq, Prod.mk.injEq] at h
    obtain ⟨rfl, rfl⟩ := h
    rw [num_be]
    refine ⟨rfl, toI_i64 _ ?_⟩
    have := be_lt [a, b, c, d, e, f, g, i]
    simp only [List.length_cons, List.length_nil] at this
    omega
  · rw [if_neg h8] at h; cases h
theorem lenP_len (n : Nat) (h : n ≤ 65535) (r : List UInt8) : lenP (lenB n ++ r) = some (n, r) := by
  have hl : (lenB n).length = 2 := rfl
  unfold lenP
  rw [if_pos (by rw [List.length_append, hl]; omega), List.take_left' hl, List.drop_left' hl]
  have : be (lenB n) = n := by
    simp only [be, lenB, List.foldl_cons, List.foldl_nil, UInt8.toNat_ofNat']
    omega
  rw [this]
theorem len_lenP {l r : List UInt8} {n : Nat} (h : lenP l = some (n, r)) : l = lenB n ++ r ∧ n ≤ 65535 := by
  have h65 := lenP_le h
  refine ⟨?_, h65⟩
  unfold lenP at h
  by_cases h2 : 2 ≤ l.length
  · rw [if_pos h2] at h
    match l, h2 with
    | a :: b :: t, _ =>
      simp only [List.take_succ_cons, List.take_zero, List.drop_succ_cons, List.drop_zero, Option.some.injEq, Prod.mk.injEq] at h
      obtain ⟨rfl, rfl⟩ := h
      have ha := UInt8.toNat_lt a
      have hb := UInt8.toNat_lt b
      have e1 : UInt8.ofNat (be [a, b] / 256) = a := by
        apply UInt8.toNat_inj.1
        rw [UInt8.toNat_ofNat']
        simp only [be, List.foldl_cons, List.foldl_nil]
        omega
      have e2 : UInt8.ofNat (be [a, b]) = b := by
        apply UInt8.toNat_inj.1
        rw [UInt8.toNat_ofNat']
        simp only [be, List.foldl_cons, List.foldl_nil]
        omega
      simp only [lenB, e1, e2, List.cons_append, List.nil_append]
  · rw [if_neg h2] at h; cases h
theorem txtP_txt (s : List UInt8) (h : s.length ≤ 65535) (r : List UInt8) : txtP (txtB s ++ r) = some (s, r) := by
  unfold txtP txtB
  rw [List.append_assoc, lenP_len s.length h]
  simp only [takeP]
  rw [if_pos (by rw [List.length_append]; omega), List.take_left, List.drop_left]
theorem txt_txtP {l r s : List UInt8} (h : txtP l = some (s, r)) : l = txtB s ++ r ∧ s.length ≤ 65535 := by
  unfold txtP at h
  cases hl : lenP l with
  | none => rw [hl] at h; cases h
  | some x =>
    obtain ⟨n, l1⟩ := x
    obtain ⟨rfl, hn⟩ := len_lenP hl
    rw [hl] at h
    simp only [takeP] at h
    by_cases hc : n ≤ l1.length
    · rw [if_pos hc] at h
      cases h
      have : (l1.take n).length = n := by rw [List.length_take]; omega
      unfold txtB
      rw [this]
      refine ⟨?_, hn⟩
      rw [List.append_assoc, List.take_append_drop]
    · rw [if_neg hc] at h; cases h
theorem txtsP_txts : ∀ (ss : List (List UInt8)) (_ : ∀ s ∈ ss, s.length ≤ 65535) (r : List UInt8), txtsP ss.length (txtsB ss ++ r) = some (ss, r)
  | [], _, r => rfl
  | s :: ss, h, r => by
    have e : txtsB (s :: ss) ++ r = txtB s ++ (txtsB ss ++ r) := by simp [txtsB]
    rw [e]
    simp only [List.length_cons, txtsP, txtP_txt s (h s (by simp)), txtsP_txts ss (fun x hx => h x (by simp [hx])) r]
theorem txts_txtsP : ∀ (n : Nat) {l r : List UInt8} {ss : List (List UInt8)}, txtsP n l = some (ss, r) → l = txtsB ss ++ r ∧ ss.length = n ∧ ∀ s ∈ ss, s.length ≤ 65535
  | 0, l, r, ss, h => by cases h; simp [txtsB]
  | n + 1, l, r, ss, h => by
    simp only [txtsP] at h
    cases ht : txtP l with
    | none => rw [ht] at h; cases h
    | some x =>
      obtain ⟨s, l1⟩ := x
      rw [ht] at h
      simp only at h
      cases hs : txtsP n l1 with
      | none => rw [hs] at h; cases h
      | some y =>
        obtain ⟨rs, l2⟩ := y
        rw [hs] at h
        cases h
        obtain ⟨rfl, h1⟩ := txt_txtP ht
        obtain ⟨rfl, h2, h3⟩ := txts_txtsP n hs
        refine ⟨by simp [txtsB], by simp [h2], fun x hx => ?_⟩
        rcases List.mem_cons.1 hx with rfl | hx
        · exact h1
        · exact h3 x hx
theorem numsP_nums : ∀ (ns : List Int) (_ : ∀ n ∈ ns, I64 n) (r : List UInt8), numsP ns.length (numsB ns ++ r) = some (ns, r)
  | [], _, r => rfl
  | n :: ns, h, r => by
    have e : numsB (n :: ns) ++ r = numB n ++ (numsB ns ++ r) := by simp [numsB]
    rw [e]
    simp only [List.length_cons, numsP, numP_num n (h n (by simp)), numsP_nums ns (fun x hx => h x (by simp [hx])) r]
theorem nums_numsP : ∀ (n : Nat) {l r : List UInt8} {ns : List Int}, numsP n l = some (ns, r) → l = numsB ns ++ r ∧ ns.length = n ∧ ∀ s ∈ ns, I64 s
  | 0, l, r, ss, h => by cases h; simp [numsB]
  | n + 1, l, r, ss, h => by
    simp only [numsP] at h
    cases ht : numP l with
    | none => rw [ht] at h; cases h
    | some x =>
      obtain ⟨s, l1⟩ := x
      rw [ht] at h
      simp only at h
      cases hs : numsP n l1 with
      | none => rw [hs] at h; cases h
      | some y =>
        obtain ⟨rs, l2⟩ := y
        rw [hs] at h
        cases h
        obtain ⟨rfl, h1⟩ := num_numP ht
        obtain ⟨rfl, h2, h3⟩ := nums_numsP n hs
        refine ⟨by simp [numsB], by simp [h2], fun x hx => ?_⟩
        rcases List.mem_cons.1 hx with rfl | hx
        · exact h1
        · exact h3 x hx
theorem numsB_cons (n : Int) (ns : List Int) : numsB (n :: ns) = numB n ++ numsB ns := by simp [numsB]
theorem numsB_nil : numsB [] = [] := rfl
theorem bind_inv {α β : Type} {x : Option α} {f : α → Option β} {b : β} (h : x.bind f = some b) : ∃ a, x = some a ∧ f a = some b := by
  cases x with
  | none => cases h
  | some a => exact ⟨a, rfl, h⟩
theorem postP_post (p : Post) (h1 : p.label.length ≤ 65535) (h2 : ∀ n ∈ [p.frm, p.to, p.cls, p.acc], I64 n) (r : List UInt8) : postP (postB p ++ r) = some (p, r) := by
  simp only [List.mem_cons, List.not_mem_nil, or_false, forall_eq_or_imp, forall_eq] at h2
  obtain ⟨a1, a2, a3, a4⟩ := h2
  simp only [postB, numsB_cons, numsB_nil, List.append_assoc, List.nil_append, postP, Option.bind_eq_bind, txtP_txt _ h1, numP_num _ a1, numP_num _ a2, numP_num _ a3, numP_num _ a4, Option.bind_some]
theorem post_postP {l r : List UInt8} {p : Post} (h : postP l = some (p, r)) : l = postB p ++ r ∧ p.label.length ≤ 65535 ∧ ∀ n ∈ [p.frm, p.to, p.cls, p.acc], I64 n := by
  simp only [postP, Option.bind_eq_bind] at h
  obtain ⟨⟨x1, l1⟩, h1, h⟩ := bind_inv h
  obtain ⟨⟨x2, l2⟩, h2, h⟩ := bind_inv h
  obtain ⟨⟨x3, l3⟩, h3, h⟩ := bind_inv h
  obtain ⟨⟨x4, l4⟩, h4, h⟩ := bind_inv h
  obtain ⟨⟨x5, l5⟩, h5, h⟩ := bind_inv h
  cases h
  obtain ⟨rfl, k1⟩ := txt_txtP h1
  obtain ⟨rfl, k2⟩ := num_numP h2
  obtain ⟨rfl, k3⟩ := num_numP h3
  obtain ⟨rfl, k4⟩ := num_numP h4
  obtain ⟨rfl, k5⟩ := num_numP h5
  refine ⟨?_, k1, ?_⟩
  · simp only [postB, numsB_cons, numsB_nil, List.append_assoc, List.nil_append]
  · simp only [List.mem_cons, List.not_mem_nil, or_false, forall_eq_or_imp, forall_eq]
    exact ⟨k2, k3, k4, k5⟩
theorem recP_rec (p : Rec) (h1 : p.label.length ≤ 65535) (h2 : ∀ n ∈ [p.scanner, p.number, p.kind, p.time], I64 n) (h3 : p.contents.length ≤ 65535) (h4 : ∀ s ∈ p.contents, s.length ≤ 65535) (r : List UInt8) : recP (recB p ++ r) = some (p, r) := by
  simp only [List.mem_cons, List.not_mem_nil, or_false, forall_eq_or_imp, forall_eq] at h2
  obtain ⟨a1, a2, a3, a4⟩ := h2
  simp only [recB, numsB_cons, numsB_nil, List.append_assoc, List.nil_append, recP, Option.bind_eq_bind, txtP_txt _ h1, numP_num _ a1, numP_num _ a2, numP_num _ a3, numP_num _ a4, lenP_len _ h3, txtsP_txts _ h4, Option.bind_some]
theorem rec_recP {l r : List UInt8} {p : Rec} (h : recP l = some (p, r)) : l = recB p ++ r ∧ p.label.length ≤ 65535 ∧ (∀ n ∈ [p.scanner, p.number, p.kind, p.time], I64 n) ∧ p.contents.length ≤ 65535 ∧ ∀ s ∈ p.contents, s.length ≤ 65535 := by
  simp only [recP, Option.bind_eq_bind] at h
  obtain ⟨⟨x1, l1⟩, h1, h⟩ := bind_inv h
  obtain ⟨⟨x2, l2⟩, h2, h⟩ := bind_inv h
  obtain ⟨⟨x3, l3⟩, h3, h⟩ := bind_inv h
  obtain ⟨⟨x4, l4⟩, h4, h⟩ := bind_inv h
  obtain ⟨⟨x5, l5⟩, h5, h⟩ := bind_inv h
  obtain ⟨⟨x6, l6⟩, h6, h⟩ := bind_inv h
  obtain ⟨⟨x7, l7⟩, h7, h⟩ := bind_inv h
  cases h
  obtain ⟨rfl, k1⟩ := num_numP h1
  obtain ⟨rfl, k2⟩ := num_numP h2
  obtain ⟨rfl, k3⟩ := num_numP h3
  obtain ⟨rfl, k4⟩ := num_numP h4
  obtain ⟨rfl, k5⟩ := txt_txtP h5
  obtain ⟨rfl, k6⟩ := len_lenP h6
  obtain ⟨rfl, k7, k8⟩ := txts_txtsP _ h7
  refine ⟨?_, k5, ?_, by rw [k7]; exact k6, k8⟩
  · simp only [recB, numsB_cons, numsB_nil, List.append_assoc, List.nil_append, k7]
  · simp only [List.mem_cons, List.not_mem_nil, or_false, forall_eq_or_imp, forall_eq]
    exact ⟨k1, k2, k3, k4⟩
theorem paperP_paper (p : Paper) (h1 : p.sl.length ≤ 65535) (h2 : ∀ n ∈ [p.frm, p.to, p.time, p.count, p.root, p.give, p.take, p.index], I64 n) (h3 : p.label.length ≤ 65535) (h4 : p.path.length ≤ 65535) (h5 : ∀ n ∈ p.path, I64 n) (r : List UInt8) : paperP (paperB p ++ r) = some (p, r) := by
  simp only [List.mem_cons, List.not_mem_nil, or_false, forall_eq_or_imp, forall_eq] at h2
  obtain ⟨a1, a2, a3, a4, a5, a6, a7, a8⟩ := h2
  simp only [paperB, numsB_cons, numsB_nil, List.append_assoc, List.nil_append, paperP, Option.bind_eq_bind, txtP_txt _ h1, txtP_txt _ h3, numP_num _ a1, numP_num _ a2, numP_num _ a3, numP_num _ a4, numP_num _ a5, numP_num _ a6, numP_num _ a7, numP_num _ a8, lenP_len _ h4, numsP_nums _ h5, Option.bind_some]
theorem paper_paperP {l r : List UInt8} {p : Paper} (h : paperP l = some (p, r)) : l = paperB p ++ r ∧ p.sl.length ≤ 65535 ∧ (∀ n ∈ [p.frm, p.to, p.time, p.count, p.root, p.give, p.take, p.index], I64 n) ∧ p.label.length ≤ 65535 ∧ p.path.length ≤ 65535 ∧ ∀ n ∈ p.path, I64 n := by
  simp only [paperP, Option.bind_eq_bind] at h
  obtain ⟨⟨x1, l1⟩, h1, h⟩ := bind_inv h
  obtain ⟨⟨x2, l2⟩, h2, h⟩ := bind_inv h
  obtain ⟨⟨x3, l3⟩, h3, h⟩ := bind_inv h
  obtain ⟨⟨x4, l4⟩, h4, h⟩ := bind_inv h
  obtain ⟨⟨x5, l5⟩, h5, h⟩ := bind_inv h
  obtain ⟨⟨x6, l6⟩, h6, h⟩ := bind_inv h
  obtain ⟨⟨x7, l7⟩, h7, h⟩ := bind_inv h
  obtain ⟨⟨x8, l8⟩, h8, h⟩ := bind_inv h
  obtain ⟨⟨x9, l9⟩, h9, h⟩ := bind_inv h
  obtain ⟨⟨x10, l10⟩, h10, h⟩ := bind_inv h
  obtain ⟨⟨x11, l11⟩, h11, h⟩ := bind_inv h
  obtain ⟨⟨x12, l12⟩, h12, h⟩ := bind_inv h
  cases h
  obtain ⟨rfl, k1⟩ := txt_txtP h1
  obtain ⟨rfl, k2⟩ := num_numP h2
  obtain ⟨rfl, k3⟩ := num_numP h3
  obtain ⟨rfl, k4⟩ := num_numP h4
  obtain ⟨rfl, k5⟩ := num_numP h5
  obtain ⟨rfl, k6⟩ := num_numP h6
  obtain ⟨rfl, k7⟩ := num_numP h7
  obtain ⟨rfl, k8⟩ := num_numP h8
  obtain ⟨rfl, k9⟩ := txt_txtP h9
  obtain ⟨rfl, k10⟩ := num_numP h10
  obtain ⟨rfl, k11⟩ := len_lenP h11
  obtain ⟨rfl, k12, k13⟩ := nums_numsP _ h12
  refine ⟨?_, k1, ?_, k9, by rw [k12]; exact k11, k13⟩
  · simp only [paperB, numsB_cons, numsB_nil, List.append_assoc, List.nil_append, k12]
  · simp only [List.mem_cons, List.not_mem_nil, or_false, forall_eq_or_imp, forall_eq]
    exact ⟨k2, k3, k4, k5, k6, k7, k8, k10⟩
theorem dec_enc (e : Log) (hin : Log.In e) (c : List UInt8) (h : encode e = some c) : decodeR c = (e, 0) ∧ 1 ≤ c.length ∧ c.length ≤ 3000 := by
  unfold encode at h
  by_cases hk : e.kind < 1 ∨ 8 < e.kind
  · rw [if_pos hk] at h; cases h
  · rw [if_neg hk] at h
    obtain ⟨⟨t1, t2, ⟨t3, t4, t5⟩, ⟨t6, t7, t8⟩, t9⟩, rfl, hl⟩ := (logW_iff e c).1 h
    have hkk : ((UInt8.ofNat e.kind.toNat).toNat : Int) = e.kind := by rw [UInt8.toNat_ofNat']; omega
    have hc := hin.cnums
    have hn := hin.n
    simp only [List.mem_cons, List.not_mem_nil, or_false, forall_eq_or_imp, forall_eq] at hc
    obtain ⟨c1, c2, c3, c4, c5, c6⟩ := hc
    have hcp : ∀ n ∈ [e.cpost.frm, e.cpost.to, e.cpost.cls, e.cpost.acc], I64 n := by
      simp only [List.mem_cons, List.not_mem_nil, or_false, forall_eq_or_imp, forall_eq]
      exact ⟨c1, c2, c3, c4⟩
    have hlog : logP (logB e) = some e := by
      have e0 : logB e = UInt8.ofNat e.kind.toNat :: (numB e.n ++ (txtB e.text ++ (postB e.post ++ (recB e.rcd ++ (paperB e.paper ++ (postB e.cpost ++ (numB e.due ++ (numB e.amount ++ [])))))))) := by
        simp only [logB, numsB_cons, numsB_nil, List.append_assoc, List.cons_append, List.nil_append, List.append_nil]
      rw [e0]
      simp only [logP]
      rw [if_neg (by omega)]
      simp only [Option.bind_eq_bind, numP_num _ hn, txtP_txt _ t1, postP_post _ t2 hin.pnums, recP_rec _ t3 hin.rnums t4 t5, paperP_paper _ t6 hin.qnums t7 t8 hin.pathnums, postP_post _ t9 hcp, numP_num _ c5, numP_num _ c6, Option.bind_some, List.length_nil, Nat.lt_irrefl, if_false, hkk, gt_iff_lt]
    refine ⟨?_, by simp [logB], hl⟩
    unfold decodeR Jou.decode
    rw [if_neg (by omega), hlog]
theorem enc_dec {b : List UInt8} {d : Log} (h : Jou.decode b = some d) : encode d = some b ∧ Log.Ok d ∧ d.rcd.contents.length ≤ 65535 ∧ d.paper.path.length ≤ 65535 := by
  unfold Jou.decode at h
  by_cases hb : b.length > 3000
  · rw [if_pos hb] at h; cases h
  · rw [if_neg hb] at h
    match b, h, hb with
    | k :: l, h, hb =>
      simp only [logP] at h
      by_cases hk : k.toNat < 1 ∨ 8 < k.toNat
      · rw [if_pos hk] at h; cases h
      · rw [if_neg hk] at h
        simp only [Option.bind_eq_bind] at h
        obtain ⟨⟨x1, l1⟩, h1, h⟩ := bind_inv h
        obtain ⟨⟨x2, l2⟩, h2, h⟩ := bind_inv h
        obtain ⟨⟨x3, l3⟩, h3, h⟩ := bind_inv h
        obtain ⟨⟨x4, l4⟩, h4, h⟩ := bind_inv h
        obtain ⟨⟨x5, l5⟩, h5, h⟩ := bind_inv h
        obtain ⟨⟨x6, l6⟩, h6, h⟩ := bind_inv h
        obtain ⟨⟨x7, l7⟩, h7, h⟩ := bind_inv h
        obtain ⟨⟨x8, l8⟩, h8, h⟩ := bind_inv h
        simp only at h
        by_cases hl : l8.length > 0
        · rw [if_pos hl] at h; cases h
        · rw [if_neg hl] at h
          cases h
          have h0 : l8 = [] := List.eq_nil_of_length_eq_zero (by omega)
          subst h0
          obtain ⟨rfl, k1⟩ := num_numP h1
          obtain ⟨rfl, k2⟩ := txt_txtP h2
          obtain ⟨rfl, k3, k4⟩ := post_postP h3
          obtain ⟨rfl, k5, k6, k7, k8⟩ := rec_recP h4
          obtain ⟨rfl, k9, k10, k11, k12, k13⟩ := paper_paperP h5
          obtain ⟨rfl, k14, k15⟩ := post_postP h6
          obtain ⟨rfl, k16⟩ := num_numP h7
          obtain ⟨rfl, k17⟩ := num_numP h8
          have e0 : k :: (numB x1 ++ (txtB x2 ++ (postB x3 ++ (recB x4 ++ (paperB x5 ++ (postB x6 ++ (numB x7 ++ (numB x8 ++ [])))))))) = logB ⟨k.toNat, x1, x2, x3, x4, x5, x6, x7, x8⟩ := by
            simp only [logB, numsB_cons, numsB_nil, List.append_assoc, List.cons_append, List.nil_append, List.append_nil, Int.toNat_natCast, UInt8.ofNat_toNat]
          have hkb := UInt8.toNat_lt k
          refine ⟨?_, ?_, k7, k12⟩
          · unfold encode
            rw [if_neg (by simp only; omega)]
            refine (logW_iff _ _).2 ⟨⟨k2, k3, ⟨k5, k7, k8⟩, ⟨k9, k11, k12⟩, k14⟩, e0, by omega⟩
          · simp only [List.mem_cons, List.not_mem_nil, or_false, forall_eq_or_imp, forall_eq] at k4 k6 k10 k15
            obtain ⟨q1, q2, q3, q4⟩ := k4
            obtain ⟨u1, u2, u3, u4⟩ := k6
            obtain ⟨v1, v2, v3, v4, v5, v6, v7, v8⟩ := k10
            obtain ⟨z1, z2, z3, z4⟩ := k15
            constructor
            · exact ⟨by dsimp only; omega, by dsimp only; omega⟩
            · simpa using k1
            · simp [maxLen]; omega
            · exact ⟨by dsimp only; unfold maxLen; omega, q1, q2, q3, q4⟩
            · exact ⟨by simp only [List.mem_cons, List.not_mem_nil, or_false, forall_eq_or_imp, forall_eq]; exact ⟨u1, u2, u3, u4⟩, by simp [maxLen]; omega, by dsimp only; omega, fun s hs => by have := k8 s hs; unfold maxLen; omega⟩
            · refine ⟨by simp [maxLen]; omega, by simp only [List.mem_cons, List.not_mem_nil, or_false, forall_eq_or_imp, forall_eq]; exact ⟨v1, v2, v3, v4, v5, v6, v7⟩, by simp [maxLen]; omega, by simpa using v8, by dsimp only; omega, k13⟩
            · exact ⟨by dsimp only; unfold maxLen; omega, z1, z2, z3, z4⟩
            · simp only [List.mem_cons, List.not_mem_nil, or_false, forall_eq_or_imp, forall_eq]
              exact ⟨k16, k17⟩
/-- An entry that came in and is short is one that Encode takes. -/
theorem ok_of_in {e : Log} (h : Log.In e) (hs : LShort e) : Log.Ok e := by
  have hp := h.pnums
  have hc := h.cnums
  have hq := h.qnums
  simp only [List.mem_cons, List.not_mem_nil, or_false, forall_eq_or_imp, forall_eq] at hp hc hq
  obtain ⟨q1, q2, q3, q4⟩ := hp
  obtain ⟨z1, z2, z3, z4, z5, z6⟩ := hc
  obtain ⟨v1, v2, v3, v4, v5, v6, v7, v8⟩ := hq
  have s1 := hs.2.2.1.2.1
  have s2 := hs.2.2.2.2.2.1
  constructor
  · exact h.kind
  · simpa using h.n
  · simpa using h.text
  · exact ⟨h.plabel, q1, q2, q3, q4⟩
  · exact ⟨h.rnums, by simpa using h.rlabel, by omega, h.each⟩
  · exact ⟨by simpa using h.sl, by simp only [List.mem_cons, List.not_mem_nil, or_false, forall_eq_or_imp, forall_eq]; exact ⟨v1, v2, v3, v4, v5, v6, v7⟩, by simpa using h.label, by simpa using v8, by omega, h.pathnums⟩
  · exact ⟨h.clabel, z1, z2, z3, z4⟩
  · simp only [List.mem_cons, List.not_mem_nil, or_false, forall_eq_or_imp, forall_eq]
    exact ⟨z5, z6⟩
end Jou
end Go.Proofs.Ytoaembpakmpolaa
