/-
  The walks over the reader of package journal.
-/
import Derived.Test.YtoaembpakmpolaaJouPlain
import Derived.Laws.Bits64b
namespace Go.Proofs.Ytoaembpakmpolaa
open Go.RowKit Jou
attribute [local go_sem] ba_get ba_extract ba_append

/-- The panic of a reader. -/
abbrev Fail : Ending := .panicked [{ v := .iface 64 (.agg #[]), recovered := false }]
/-- The reader at block p: what is left. -/
def Rr (w : World) (p : Nat) (l : List UInt8) : Prop :=
  ∃ A c, w.cell? ⟨p, 0, none⟩ = some (.slice A l.length c) ∧ w.frozen? ⟨p, 0, none⟩ = false ∧ l.length ≤ c ∧ c ≤ maxLen ∧ Rd w A (l.map bV) ∧ ∀ a, A = some a → a.block < p
theorem Rr.lt {w : World} {p : Nat} {l : List UInt8} (h : Rr w p l) : p < w.heap.size := by
  obtain ⟨A, c, h1, _⟩ := h
  exact World.block_lt_of_cell? w _ h1
theorem Rr.grown {w w' : World} {p : Nat} {l : List UInt8} (h : Rr w p l) (hg : w.grownBy w' none) : Rr w' p l := by
  have hp := h.lt
  obtain ⟨A, c, h1, h2, h3, h4, h5, h6⟩ := h
  have hb : w'.heap[p]? = w.heap[p]? := hg.block p hp (by simp)
  exact ⟨A, c, (World.cell?_of_block (a := ⟨p, 0, none⟩) hb).trans h1, (World.frozen?_of_block (a := ⟨p, 0, none⟩) hb).trans h2, h3, h4, h5.same hg.size (fun a _ ha => hg.block _ ha (by simp)), h6⟩
theorem Rr.alloc {w : World} {p : Nat} {l : List UInt8} (h : Rr w p l) (o : Obj) : Rr (w.alloc o) p l := h.grown (World.grownBy_alloc w o none)
theorem gt {a b c : World} {r : Option Nat} (h : a.grownBy b r) (k : b.grownBy c r) : a.grownBy c r :=
  ⟨k.os.trans h.os, k.tape.trans h.tape, k.output.trans h.output, Nat.le_trans h.size k.size, fun i hi hr => (k.block i (Nat.lt_of_lt_of_le hi h.size) hr).trans (h.block i hi hr)⟩
theorem gr (w : World) (r : Option Nat) : w.grownBy w r := ⟨rfl, rfl, rfl, Nat.le_refl _, fun _ _ _ => rfl⟩
theorem g_set (w : World) (p j : Nat) (v : Value) : w.grownBy (w.setCell ⟨p, j, none⟩ v) (some p) :=
  ⟨rfl, rfl, rfl, by simp [World.setCell], fun k _ hk => Below.heap_setCell _ _ _ _ (fun e => hk (by rw [e]))⟩
theorem g_drewN {a b : World} {r : Option Nat} (h : a.grownBy b r) (n : Nat) : a.grownBy (b.drewN n) r := ⟨h.os, h.tape, h.output, h.size, h.block⟩
theorem Rd.gb {w w' : World} {p : Nat} {A : Option Addr} {xs : List Value} (h : Rd w A xs) (hg : w.grownBy w' (some p)) (hA : ∀ a, A = some a → a.block < p) : Rd w' A xs :=
  h.same hg.size fun a ha hl => hg.block _ hl (by have := hA a ha; simp; omega)

theorem Rr.set {w : World} {p : Nat} {l : List UInt8} (h : Rr w p l) {B : Nat} (hB : p < B) (j : Nat) (v : Value) : Rr (w.setCell ⟨B, j, none⟩ v) p l := by
  obtain ⟨A, c, h1, h2, h3, h4, h5, h6⟩ := h
  refine ⟨A, c, ?_, ?_, h3, h4, h5.same (by simp [World.setCell]) (fun a ha _ => Below.heap_setCell _ _ _ _ (by have := h6 a ha; show a.block ≠ B; omega)), h6⟩
  · rw [World.cell?_of_block (w := w) (a := ⟨p, 0, none⟩) (Below.heap_setCell _ _ _ _ (by show p ≠ B; omega))]; exact h1
  · rw [World.frozen?_of_block (w := w) (a := ⟨p, 0, none⟩) (Below.heap_setCell _ _ _ _ (by show p ≠ B; omega))]; exact h2
theorem g_alloc {a b : World} {r : Option Nat} (h : a.grownBy b r) (o : Obj) : a.grownBy (b.alloc o) r := gt h (World.grownBy_alloc b o r)
theorem g_new {a b : World} {r : Option Nat} (h : a.grownBy b r) {B : Nat} (hB : a.heap.size ≤ B) (j : Nat) (v : Value) : a.grownBy (b.setCell ⟨B, j, none⟩ v) r :=
  ⟨h.os, h.tape, h.output, by simp [World.setCell]; exact h.size, fun k hk hr => (Below.heap_setCell _ _ _ _ (by show k ≠ B; omega)).trans (h.block k hk hr)⟩
/-- A store into a block that is known whole. -/
theorem row_set {w : World} {B : Nat} {cs : Array Value} {t : TypeId} {fr : Nat × Nat} (h : w.heap[B]? = some (.cells cs t fr)) (j : Nat) (v : Value) : (w.setCell ⟨B, j, none⟩ v).heap[B]? = some (.cells (cs.setIfInBounds j v) t fr) := by
  have hlt := block_lt h
  have hh : w.heap[B] = .cells cs t fr := (Array.getElem?_eq_some_iff.1 h).2
  simp only [World.setCell]
  rw [Array.getElem?_eq_getElem (by rw [Array.size_modify]; exact hlt), Array.getElem_modify_self, hh]
  rfl
theorem row_other {w : World} {B C : Nat} {o : Obj} (h : w.heap[B]? = some o) (hne : B ≠ C) (j : Nat) (v : Value) : (w.setCell ⟨C, j, none⟩ v).heap[B]? = some o := (Below.heap_setCell _ _ _ _ hne).trans h

/-- What take leaves. -/
def TakeRes (n p : Nat) (l : List UInt8) (w : World) (e : Ending) (w' : World) : Prop :=
  w.grownBy w' (some p) ∧ if n ≤ l.length then (∃ A c, e = .returned (.slice A n c) ∧ Rd w' A ((l.take n).map bV) ∧ Rr w' p (l.drop n)) else e = Fail
set_option maxHeartbeats 1000000 in
set_option maxRecDepth 100000 in
theorem take_any (p : Nat) (l : List UInt8) (n : Nat) (w : World) (hR : Rr w p l) (hn : n ≤ maxLen) :
    Calls Try.prog 57 #[.pointer (some ⟨p, 0, none⟩), iV n] w (TakeRes n p l w) := by
  obtain ⟨A, c, h1, h2, h3, h4, h5, h6⟩ := hR
  have H5 := Lib.hid h5; clear h5
  have H6 := Lib.hid h6; clear h6
  unfold maxLen at h4 hn
  by_cases hnl : n ≤ l.length
  · go_enter Try.func57, Try.ntmps57
    go_wp2
    · rename_i h0
      clear h0
      obtain rfl : c = n := h
      obtain rfl : c = l.length := by omega
      go_ret
      refine ⟨g_set _ _ _ _, ?_⟩
      rw [if_pos (Nat.le_refl _)]
      refine ⟨A, _, rfl, ?_, A, 0, ?_, ?_, ?_, ?_, ?_, H6.out⟩
      · rw [List.take_of_length_le (Nat.le_refl _)]; exact H5.out.gb (g_set _ _ _ _) H6.out
      · rw [World.cell?_setCell_same' _ _ _ (by rw [h1]; rfl)]; simp
      · rw [World.frozen?_setCell]; exact h2
      · simp
      · simp
      · simp [Rd]
    · go_ret
      refine ⟨g_set _ _ _ _, ?_⟩
      rw [if_pos hnl]
      refine ⟨A, _, rfl, ?_, A.map (fun x => x.add n), c - n, ?_, ?_, ?_, ?_, ?_, ?_⟩
      · rw [List.map_take]; exact (H5.out.gb (g_set _ _ _ _) H6.out).take n
      · rw [World.cell?_setCell_same' _ _ _ (by rw [h1]; rfl)]; simp
      · rw [World.frozen?_setCell]; exact h2
      · simp; omega
      · unfold maxLen; omega
      · rw [List.map_drop]; exact (H5.out.gb (g_set _ _ _ _) H6.out).dropA n
      · intro a ha
        cases A with
        | none => cases ha
        | some a0 =>
          simp at ha
          have := H6.out a0 rfl
          rw [← ha]
          unfold Addr.add
          split <;> exact this
  · have hnl' : (l.length : Int) < (n : Int) := by omega
    go_enter Try.func57, Try.ntmps57
    go_wp2
    refine ⟨rfl, gr _ _, ?_⟩
    rw [if_neg hnl]

/-- What a step of the reader's leaves that answers by a value. -/
def StepRes {α : Type} (p : Nat) (enc : α → Value) (w : World) (r : Option (α × List UInt8)) (e : Ending) (w' : World) : Prop :=
  w.grownBy w' (some p) ∧ match r with
    | none => e = Fail
    | some (x, l) => e = .returned (enc x) ∧ Rr w' p l
set_option maxHeartbeats 1000000 in
set_option maxRecDepth 100000 in
theorem rlength_any (p : Nat) (l : List UInt8) (w : World) (hR : Rr w p l) :
    Calls Try.prog 73 #[.pointer (some ⟨p, 0, none⟩)] w (StepRes p (fun n : Nat => iV n) w (lenP l)) := by
  have HR := Lib.hid hR; clear hR
  go_enter Try.func73, Try.ntmps73
  go_wp2_with fail
  refine (take_any p l 2 w HR.out (by decide)).mono ?_
  rintro e w1 ⟨hg, hh⟩
  by_cases h2 : 2 ≤ l.length
  · rw [if_pos h2] at hh
    obtain ⟨A, c, rfl, hrd, hR1⟩ := hh
    have HG := Lib.hid hg; clear hg
    have HR1 := Lib.hid hR1; clear hR1
    obtain ⟨b, off, rfl, hb, hc⟩ := hrd.get (i := 0) (by simp; omega)
    have c0 : w1.cell? ⟨b, off, none⟩ = some (bV l[0]) := by have := hrd.byte (i := 0) (by simp; omega); simpa using this
    have c1 : w1.cell? ⟨b, off + 1, none⟩ = some (bV l[1]) := by have := hrd.byte (i := 1) (by simp; omega); simpa using this
    clear hc hrd
    go_wp2
    go_quiet (fail)
    go_wp2
    go_ret
    refine ⟨g_drewN HG.out _, ?_⟩
    rw [lenP, if_pos h2]
    refine ⟨ret_int ?_, HR1.out⟩
    have e1 : l.take 2 = [l[0], l[1]] := by
      match l, h2 with
      | a :: b :: r, _ => rfl
    rw [e1]
    have := UInt8.toNat_lt l[0]
    have := UInt8.toNat_lt l[1]
    simp only [be, List.foldl_cons, List.foldl_nil]
    unfold wrap64
    omega
  · rw [if_neg h2] at hh
    subst hh
    refine ⟨rfl, hg, ?_⟩
    rw [lenP, if_neg h2]

theorem be_take_succ (l : List UInt8) (j : Nat) (h : j < l.length) : be (l.take (j + 1)) = be (l.take j) * 256 + l[j].toNat := by
  rw [List.take_add_one, List.getElem?_eq_getElem h]
  simp only [be, Option.toList_some, List.foldl_append, List.foldl_cons, List.foldl_nil]
theorem be_lt (l : List UInt8) : be l < 256 ^ l.length := by
  have : ∀ (l : List UInt8) (a k : Nat), a < 256 ^ k → l.foldl (fun a b => a * 256 + b.toNat) a < 256 ^ (k + l.length) := by
    intro l
    induction l with
    | nil => intro a k h; simpa using h
    | cons c r ih =>
      intro a k h
      have hc := UInt8.toNat_lt c
      have := ih (a * 256 + c.toNat) (k + 1) (by rw [Nat.pow_succ]; omega)
      simp only [List.foldl_cons, List.length_cons]
      rw [show k + (r.length + 1) = k + 1 + r.length by omega]
      exact this
  have := this l 0 0 (by decide)
  simpa [be] using this
set_option maxHeartbeats 1000000 in
set_option maxRecDepth 100000 in
theorem rnumber_any (p : Nat) (l : List UInt8) (w : World) (hR : Rr w p l) :
    Calls Try.prog 58 #[.pointer (some ⟨p, 0, none⟩)] w (StepRes p (fun n : Int => iV n) w (numP l)) := by
  have HR := Lib.hid hR; clear hR
  go_enter Try.func58, Try.ntmps58
  go_wp2_with fail
  refine (take_any p l 8 w HR.out (by decide)).mono ?_
  rintro e w1 ⟨hg, hh⟩
  by_cases h2 : 8 ≤ l.length
  · rw [if_pos h2] at hh
    obtain ⟨A, c, rfl, hrd, hR1⟩ := hh
    have HG := Lib.hid hg; clear hg
    have HR1 := Lib.hid hR1; clear hR1
    obtain ⟨b, off, rfl, hb, hc⟩ := hrd.get (i := 0) (by simp; omega)
    clear hc
    have HRD := Lib.hid hrd; clear hrd
    go_wp2
    go_loop [3, 9] (fun u i => ∃ k : Nat, k ≤ 8 ∧ i = iV k ∧ u = .int .u64 (be (l.take k))) (fun _ i => 8 - (intOf i).toNat)
    case atStart => exact ⟨0, by omega, rfl, rfl⟩
    case round =>
      obtain ⟨k, hk, rfl, rfl⟩ := hrel
      by_cases hlt : k < 8
      · have hcell : w1.cell? ⟨b, off + k, none⟩ = some (bV l[k]) := by have := HRD.out.byte (i := k) (by simp; omega); simpa using this
        go_wp2
        refine ⟨⟨k + 1, hlt, by go_num, ?_⟩, by simp [intOf]; omega⟩
        have h1 := be_lt (l.take k)
        have h3 : 256 ^ (l.take k).length ≤ 256 ^ 7 := Nat.pow_le_pow_right (by decide) (by simp; omega)
        have h4 := UInt8.toNat_lt l[k]
        have h5 : be (l.take k) < 72057594037927936 := Nat.lt_of_lt_of_le h1 h3
        rw [IntKind.wrap_u64, IntKind.wrap_u64, Int.emod_eq_of_lt (by omega) (by omega), Int.emod_eq_of_lt (by omega) (by omega)]
        rw [show (be (l.take k) : Int) * 256 = ((be (l.take k) * 256 : Nat) : Int) by omega, bits_or_u64_nat _ _ (by omega) (by omega), be_take_succ l k (by omega)]
        have := Nat.two_pow_add_eq_or_of_lt (i := 8) (b := l[k].toNat) (by omega) (be (l.take k))
        rw [Nat.mul_comm (be (l.take k)) 256, ← show 2 ^ 8 = 256 by rfl, ← this]
      · obtain rfl : k = 8 := by omega
        go_wp2
        go_ret
        refine ⟨HG.out, ?_⟩
        rw [numP, if_pos h2]
        refine ⟨ret_int ?_, HR1.out⟩
        have h1 := be_lt (l.take 8)
        rw [List.length_take, Nat.min_eq_left h2] at h1
        unfold toI wrap64
        split <;> omega
  · rw [if_neg h2] at hh
    subst hh
    refine ⟨rfl, hg, ?_⟩
    rw [numP, if_neg h2]

set_option maxHeartbeats 1000000 in
set_option maxRecDepth 100000 in
theorem rtext_any (p : Nat) (l : List UInt8) (w : World) (hR : Rr w p l) :
    Calls Try.prog 59 #[.pointer (some ⟨p, 0, none⟩)] w (StepRes p sV w (txtP l)) := by
  have HR := Lib.hid hR; clear hR
  go_enter Try.func59, Try.ntmps59
  go_wp2_with fail
  refine (rlength_any p l w HR.out).mono ?_
  rintro e w1 ⟨hg, hh⟩
  cases hl : lenP l with
  | none =>
    rw [hl] at hh
    subst hh
    refine ⟨rfl, hg, ?_⟩
    rw [txtP, hl]
  | some x =>
    obtain ⟨n, l1⟩ := x
    rw [hl] at hh
    obtain ⟨rfl, hR1⟩ := hh
    have hn : n ≤ 65535 := by
      unfold lenP at hl
      split at hl
      · cases hl
        have h1 := be_lt (l.take 2)
        rw [List.length_take, Nat.min_eq_left (by assumption)] at h1
        omega
      · cases hl
    have HL := Lib.hid hl; clear hl
    have HG := Lib.hid hg; clear hg
    have HR1 := Lib.hid hR1; clear hR1
    go_wp2_with fail
    refine (take_any p l1 n w1 HR1.out (by unfold maxLen; omega)).mono ?_
    rintro e w2 ⟨hg, hh⟩
    by_cases h2 : n ≤ l1.length
    · rw [if_pos h2] at hh
      obtain ⟨A, c, rfl, hrd, hR2⟩ := hh
      have HG2 := Lib.hid (gt HG.out hg); clear hg
      have HR2 := Lib.hid hR2; clear hR2
      have hconv : (convert 38 9 (.slice A n c)).run Try.prog w2 = .ok (sV (l1.take n)) w2 := by
        have := conv_rd (P := Try.prog) Try.underlying38 Try.underlying5 Try.underlying9 c hrd
        rw [List.length_take, Nat.min_eq_left h2] at this
        exact this
      clear hrd
      go_wp2
      go_ret
      refine ⟨HG2.out, ?_⟩
      rw [txtP, HL.out]
      simp only [takeP, if_pos h2]
      exact ⟨rfl, HR2.out⟩
    · rw [if_neg h2] at hh
      subst hh
      refine ⟨rfl, gt HG.out hg, ?_⟩
      rw [txtP, HL.out]
      simp only [takeP, if_neg h2]
end Go.Proofs.Ytoaembpakmpolaa
