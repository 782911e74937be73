/-
  The walk over the reader of package journal: an entry. (Written by a program: wip/jou/gen_log.py.)
-/
import Derived.Test.YtoaembpakmpolaaJouRd3
namespace Go.Proofs.Ytoaembpakmpolaa
open Go.RowKit Jou
attribute [local go_sem] ba_get ba_extract ba_append

/-- The state of the reading of an entry: the reader, the two blocks of the entry, the rows that have been made. -/
def LogSt (p : Nat) (w W : World) (l : List UInt8) (cs : Array Value) (rows : List (Option Addr × List Value)) : Prop :=
  w.grownBy W (some p) ∧ Rr W p l ∧ W.heap[w.heap.size]? = some (.cells #[iV 0, iV 0, .string ⟨#[]⟩, .string ⟨#[]⟩, iV 0, iV 0, iV 0, iV 0, iV 0, iV 0, iV 0, iV 0, .string ⟨#[]⟩, .slice none 0 0, .string ⟨#[]⟩, iV 0, iV 0, iV 0, iV 0, iV 0, iV 0, iV 0, .string ⟨#[]⟩, iV 0, .slice none 0 0, .string ⟨#[]⟩, iV 0, iV 0, iV 0, iV 0, iV 0, iV 0] 37 (0, 0)) ∧ W.heap[w.heap.size + 1]? = some (.cells cs 37 (0, 0)) ∧
    ∀ r ∈ rows, Rd W r.1 r.2 ∧ ∀ a, r.1 = some a → w.heap.size + 2 ≤ a.block ∧ a.block < W.heap.size
theorem LogSt.sz {p : Nat} {w W : World} {l : List UInt8} {cs : Array Value} {rows : List (Option Addr × List Value)} (h : LogSt p w W l cs rows) : w.heap.size + 2 ≤ W.heap.size := block_lt h.2.2.2.1
theorem LogSt.step {p : Nat} {w W W1 : World} {l l1 : List UInt8} {cs : Array Value} {rows : List (Option Addr × List Value)} (h : LogSt p w W l cs rows) (hp : p < w.heap.size) (hg : W.grownBy W1 (some p)) (hR : Rr W1 p l1) : LogSt p w W1 l1 cs rows := by
  have hz := h.sz
  obtain ⟨h1, h2, h3, h4, h5⟩ := h
  refine ⟨gt h1 hg, hR, (hg.block _ (by omega) (by simp; omega)).trans h3, (hg.block _ (by omega) (by simp; omega)).trans h4, fun r hr => ⟨(h5 r hr).1.same hg.size (fun a ha hl => hg.block _ hl (by have := (h5 r hr).2 a ha; simp; omega)), fun a ha => ?_⟩⟩
  have := (h5 r hr).2 a ha
  have := hg.size
  omega
theorem LogSt.set {p : Nat} {w W : World} {l : List UInt8} {cs : Array Value} {rows : List (Option Addr × List Value)} (h : LogSt p w W l cs rows) (hp : p < w.heap.size) (j : Nat) (v : Value) : LogSt p w (W.setCell ⟨w.heap.size + 1, j, none⟩ v) l (cs.setIfInBounds j v) rows := by
  obtain ⟨h1, h2, h3, h4, h5⟩ := h
  refine ⟨g_new h1 (by omega) _ _, h2.set (by omega) _ _, row_other h3 (by omega) _ _, row_set h4 _ _, fun r hr => ⟨rd_set (h5 r hr).1 (fun a ha => by have := (h5 r hr).2 a ha; omega) _ _, fun a ha => ?_⟩⟩
  have := (h5 r hr).2 a ha
  simpa [World.setCell] using this
theorem LogSt.more {p : Nat} {w W : World} {l : List UInt8} {cs : Array Value} {rows : List (Option Addr × List Value)} (h : LogSt p w W l cs rows) {A : Option Addr} {xs : List Value} (hr : Rd W A xs) (ha : ∀ a, A = some a → w.heap.size + 2 ≤ a.block ∧ a.block < W.heap.size) : LogSt p w W l cs ((A, xs) :: rows) :=
  ⟨h.1, h.2.1, h.2.2.1, h.2.2.2.1, fun r hm => by
    rcases List.mem_cons.1 hm with rfl | hm
    · exact ⟨hr, ha⟩
    · exact h.2.2.2.2 r hm⟩
theorem LogSt.panic {p : Nat} {w W W1 : World} {l : List UInt8} {cs : Array Value} {rows : List (Option Addr × List Value)} (h : LogSt p w W l cs rows) (hg : W.grownBy W1 (some p)) : w.grownBy W1 (some p) := gt h.1 hg
theorem lgInf : (Try.prog.info? 37).map (·.size) = some 32 := by kernel_rfl
theorem g_row {a b : World} {r : Option Nat} (h : a.grownBy b r) {B : Nat} (hB : a.heap.size ≤ B) (cs : Array Value) : a.grownBy (b.setRow B cs) r :=
  ⟨h.os, h.tape, h.output, by simp; exact h.size, fun k hk hr => (setRow_other _ _ _ _ (by omega)).trans (h.block k hk hr)⟩
theorem rd_row {w : World} {A : Option Addr} {xs : List Value} (h : Rd w A xs) {B : Nat} (hA : ∀ a, A = some a → a.block ≠ B) (cs : Array Value) : Rd (w.setRow B cs) A xs :=
  h.same (by simp) (fun a ha _ => setRow_other _ _ _ _ (hA a ha))
def LogRes (p : Nat) (w : World) (r : Option Log) (e : Ending) (w' : World) : Prop :=
  w.grownBy w' (some p) ∧ match r with
    | none => e = Fail
    | some x => ∃ AC cc AP cp, e = .returned (.agg (logCells x AC cc AP cp)) ∧ Rd w' AC (x.rcd.contents.map sV) ∧ Rd w' AP (x.paper.path.map iV) ∧ (∀ a, AC = some a → w.heap.size ≤ a.block ∧ a.block < w'.heap.size) ∧ (∀ a, AP = some a → w.heap.size ≤ a.block ∧ a.block < w'.heap.size)
set_option maxHeartbeats 8000000 in
set_option maxRecDepth 100000 in
theorem rlog_any (p : Nat) (l0 : List UInt8) (w : World) (hR : Rr w p l0) :
    Calls Try.prog 28 #[.pointer (some ⟨p, 0, none⟩)] w (LogRes p w (logP l0)) := by
  have hpw := hR.lt
  have hS0 : Hid (LogSt p w ((w.alloc (.cells #[iV 0, iV 0, .string ⟨#[]⟩, .string ⟨#[]⟩, iV 0, iV 0, iV 0, iV 0, iV 0, iV 0, iV 0, iV 0, .string ⟨#[]⟩, .slice none 0 0, .string ⟨#[]⟩, iV 0, iV 0, iV 0, iV 0, iV 0, iV 0, iV 0, .string ⟨#[]⟩, iV 0, .slice none 0 0, .string ⟨#[]⟩, iV 0, iV 0, iV 0, iV 0, iV 0, iV 0] 37)).alloc (.cells #[iV 0, iV 0, .string ⟨#[]⟩, .string ⟨#[]⟩, iV 0, iV 0, iV 0, iV 0, iV 0, iV 0, iV 0, iV 0, .string ⟨#[]⟩, .slice none 0 0, .string ⟨#[]⟩, iV 0, iV 0, iV 0, iV 0, iV 0, iV 0, iV 0, .string ⟨#[]⟩, iV 0, .slice none 0 0, .string ⟨#[]⟩, iV 0, iV 0, iV 0, iV 0, iV 0, iV 0] 37)) l0 #[iV 0, iV 0, .string ⟨#[]⟩, .string ⟨#[]⟩, iV 0, iV 0, iV 0, iV 0, iV 0, iV 0, iV 0, iV 0, .string ⟨#[]⟩, .slice none 0 0, .string ⟨#[]⟩, iV 0, iV 0, iV 0, iV 0, iV 0, iV 0, iV 0, .string ⟨#[]⟩, iV 0, .slice none 0 0, .string ⟨#[]⟩, iV 0, iV 0, iV 0, iV 0, iV 0, iV 0] []) :=
    ⟨g_alloc (g_alloc (gr w _) _) _, (hR.alloc _).alloc _, (Below.heap_alloc _ _ _ (by simp)).trans (heap_alloc_new _ _), by
      have := heap_alloc_new (w.alloc (.cells #[iV 0, iV 0, .string ⟨#[]⟩, .string ⟨#[]⟩, iV 0, iV 0, iV 0, iV 0, iV 0, iV 0, iV 0, iV 0, .string ⟨#[]⟩, .slice none 0 0, .string ⟨#[]⟩, iV 0, iV 0, iV 0, iV 0, iV 0, iV 0, iV 0, .string ⟨#[]⟩, iV 0, .slice none 0 0, .string ⟨#[]⟩, iV 0, iV 0, iV 0, iV 0, iV 0, iV 0] 37)) (.cells #[iV 0, iV 0, .string ⟨#[]⟩, .string ⟨#[]⟩, iV 0, iV 0, iV 0, iV 0, iV 0, iV 0, iV 0, iV 0, .string ⟨#[]⟩, .slice none 0 0, .string ⟨#[]⟩, iV 0, iV 0, iV 0, iV 0, iV 0, iV 0, iV 0, .string ⟨#[]⟩, iV 0, .slice none 0 0, .string ⟨#[]⟩, iV 0, iV 0, iV 0, iV 0, iV 0, iV 0] 37)
      rwa [World.size_alloc] at this, fun r hr => by cases hr⟩
  clear hR
  cases l0 with
  | nil =>
    go_enter Try.func28, Try.ntmps28
    go_wp2_with fail
    refine (take_any p [] 1 _ hS0.out.2.1 (by decide)).mono ?_
    rintro e w1 ⟨hg, hh⟩
    rw [if_neg (by simp)] at hh
    subst hh
    exact ⟨rfl, hS0.out.panic hg, rfl⟩
  | cons k l1 =>
  go_enter Try.func28, Try.ntmps28
  go_wp2_with fail
  refine (take_any p (k :: l1) 1 _ hS0.out.2.1 (by decide)).mono ?_
  rintro e w1 ⟨hg, hh⟩
  rw [if_pos (by simp)] at hh
  obtain ⟨A, c, rfl, hrd, hR1⟩ := hh
  obtain ⟨b, off, rfl, hb, hc⟩ := hrd.get (i := 0) (by simp)
  have cb : w1.cell? ⟨b, off, none⟩ = some (bV k) := by have := hrd.byte (i := 0) (by simp); simpa using this
  clear hc hrd hb
  have hkk : k.toNat < 256 := UInt8.toNat_lt k
  have hS1 := Lib.hid (hS0.out.step hpw hg hR1); clear hg hR1 hS0
  simp only [List.drop_succ_cons, List.drop_zero] at hS1
  have c0 : w1.cell? ⟨w.heap.size + 1, 0, none⟩ = some (iV 0) := cell_of_row w1 _ 0 _ _ _ hS1.out.2.2.2.1
  have f0 : w1.frozen? ⟨w.heap.size + 1, 0, none⟩ = false := frozen_row hS1.out.2.2.2.1 0
  have hS2 : Hid (LogSt p w (w1.setCell ⟨w.heap.size + 1, 0, none⟩ (iV k.toNat)) l1 #[iV k.toNat, iV 0, .string ⟨#[]⟩, .string ⟨#[]⟩, iV 0, iV 0, iV 0, iV 0, iV 0, iV 0, iV 0, iV 0, .string ⟨#[]⟩, .slice none 0 0, .string ⟨#[]⟩, iV 0, iV 0, iV 0, iV 0, iV 0, iV 0, iV 0, .string ⟨#[]⟩, iV 0, .slice none 0 0, .string ⟨#[]⟩, iV 0, iV 0, iV 0, iV 0, iV 0, iV 0] []) := hS1.out.set hpw 0 (iV k.toNat)
  clear hS1
  by_cases hkind : k.toNat < 1 ∨ 8 < k.toNat
  · have hN : Hid (logP (k :: l1) = none) := by show _ = _; simp only [logP]; rw [if_pos hkind]
    rcases hkind with hk | hk
    all_goals
      go_wp2
      exact ⟨rfl, hS2.out.1, by rw [hN.out]⟩
  have hk1 : ¬ (k.toNat : Int) < 1 := by omega
  have hk2 : ¬ (8 : Int) < (k.toNat : Int) := by omega
  have HK := Lib.hid hkind; clear hkind
  go_wp2_with fail
  clear c0 f0 cb
  refine (rnumber_any p l1 _ hS2.out.2.1).mono ?_
  rintro e w2 ⟨hg, hh⟩
  cases hl : numP l1 with
  | none =>
    rw [hl] at hh
    subst hh
    refine ⟨rfl, hS2.out.panic hg, ?_⟩
    simp only [logP, if_neg HK.out, hl, Option.bind_eq_bind, Option.bind_none]
  | some x =>
  obtain ⟨n, l2⟩ := x
  rw [hl] at hh
  obtain ⟨rfl, hR'⟩ := hh
  have hp1 := Lib.hid hl; clear hl
  have hS' := Lib.hid (hS2.out.step hpw hg hR')
  have c1 : w2.cell? ⟨w.heap.size + 1, 1, none⟩ = some (iV 0) := cell_of_row w2 _ 1 _ _ _ hS'.out.2.2.2.1
  have f1 : w2.frozen? ⟨w.heap.size + 1, 1, none⟩ = false := frozen_row hS'.out.2.2.2.1 1
  clear hg hR' hS2
  have hS3 : Hid (LogSt p w (w2.setCell ⟨w.heap.size + 1, 1, none⟩ (iV n)) l2 #[iV k.toNat, iV n, .string ⟨#[]⟩, .string ⟨#[]⟩, iV 0, iV 0, iV 0, iV 0, iV 0, iV 0, iV 0, iV 0, .string ⟨#[]⟩, .slice none 0 0, .string ⟨#[]⟩, iV 0, iV 0, iV 0, iV 0, iV 0, iV 0, iV 0, .string ⟨#[]⟩, iV 0, .slice none 0 0, .string ⟨#[]⟩, iV 0, iV 0, iV 0, iV 0, iV 0, iV 0] []) := hS'.out.set hpw 1 (iV n)
  clear hS'
  go_wp2_with fail
  clear c1 f1
  refine (rtext_any p l2 _ hS3.out.2.1).mono ?_
  rintro e w3 ⟨hg, hh⟩
  cases hl : txtP l2 with
  | none =>
    rw [hl] at hh
    subst hh
    refine ⟨rfl, hS3.out.panic hg, ?_⟩
    simp only [logP, if_neg HK.out, hp1.out, hl, Option.bind_eq_bind, Option.bind_some, Option.bind_none]
  | some x =>
  obtain ⟨s, l3⟩ := x
  rw [hl] at hh
  obtain ⟨rfl, hR'⟩ := hh
  have hp2 := Lib.hid hl; clear hl
  have hS' := Lib.hid (hS3.out.step hpw hg hR')
  have c2 : w3.cell? ⟨w.heap.size + 1, 2, none⟩ = some (.string ⟨#[]⟩) := cell_of_row w3 _ 2 _ _ _ hS'.out.2.2.2.1
  have f2 : w3.frozen? ⟨w.heap.size + 1, 2, none⟩ = false := frozen_row hS'.out.2.2.2.1 2
  clear hg hR' hS3
  have hS4 : Hid (LogSt p w (w3.setCell ⟨w.heap.size + 1, 2, none⟩ (sV s)) l3 #[iV k.toNat, iV n, sV s, .string ⟨#[]⟩, iV 0, iV 0, iV 0, iV 0, iV 0, iV 0, iV 0, iV 0, .string ⟨#[]⟩, .slice none 0 0, .string ⟨#[]⟩, iV 0, iV 0, iV 0, iV 0, iV 0, iV 0, iV 0, .string ⟨#[]⟩, iV 0, .slice none 0 0, .string ⟨#[]⟩, iV 0, iV 0, iV 0, iV 0, iV 0, iV 0] []) := hS'.out.set hpw 2 (sV s)
  clear hS'
  go_wp2_with fail
  clear c2 f2
  refine (rpost_any p l3 _ hS4.out.2.1).mono ?_
  rintro e w4 ⟨hg, hh⟩
  cases hl : postP l3 with
  | none =>
    rw [hl] at hh
    subst hh
    refine ⟨rfl, hS4.out.panic hg, ?_⟩
    simp only [logP, if_neg HK.out, hp1.out, hp2.out, hl, Option.bind_eq_bind, Option.bind_some, Option.bind_none]
  | some x =>
  obtain ⟨⟨s1, p1, p2, p3, p4⟩, l4⟩ := x
  rw [hl] at hh
  simp only [postCells] at hh
  obtain ⟨rfl, hR'⟩ := hh
  have hp3 := Lib.hid hl; clear hl
  have hS' := Lib.hid (hS4.out.step hpw hg hR')
  have c3 : w4.cell? ⟨w.heap.size + 1, 3, none⟩ = some (.string ⟨#[]⟩) := cell_of_row w4 _ 3 _ _ _ hS'.out.2.2.2.1
  have f3 : w4.frozen? ⟨w.heap.size + 1, 3, none⟩ = false := frozen_row hS'.out.2.2.2.1 3
  have c4 : w4.cell? ⟨w.heap.size + 1, 4, none⟩ = some (iV 0) := cell_of_row w4 _ 4 _ _ _ hS'.out.2.2.2.1
  have f4 : w4.frozen? ⟨w.heap.size + 1, 4, none⟩ = false := frozen_row hS'.out.2.2.2.1 4
  have c5 : w4.cell? ⟨w.heap.size + 1, 5, none⟩ = some (iV 0) := cell_of_row w4 _ 5 _ _ _ hS'.out.2.2.2.1
  have f5 : w4.frozen? ⟨w.heap.size + 1, 5, none⟩ = false := frozen_row hS'.out.2.2.2.1 5
  have c6 : w4.cell? ⟨w.heap.size + 1, 6, none⟩ = some (iV 0) := cell_of_row w4 _ 6 _ _ _ hS'.out.2.2.2.1
  have f6 : w4.frozen? ⟨w.heap.size + 1, 6, none⟩ = false := frozen_row hS'.out.2.2.2.1 6
  have c7 : w4.cell? ⟨w.heap.size + 1, 7, none⟩ = some (iV 0) := cell_of_row w4 _ 7 _ _ _ hS'.out.2.2.2.1
  have f7 : w4.frozen? ⟨w.heap.size + 1, 7, none⟩ = false := frozen_row hS'.out.2.2.2.1 7
  clear hg hR' hS4
  have hT3 : Hid (LogSt p w (w4.setCell ⟨w.heap.size + 1, 3, none⟩ (sV s1)) l4 #[iV k.toNat, iV n, sV s, sV s1, iV 0, iV 0, iV 0, iV 0, iV 0, iV 0, iV 0, iV 0, .string ⟨#[]⟩, .slice none 0 0, .string ⟨#[]⟩, iV 0, iV 0, iV 0, iV 0, iV 0, iV 0, iV 0, .string ⟨#[]⟩, iV 0, .slice none 0 0, .string ⟨#[]⟩, iV 0, iV 0, iV 0, iV 0, iV 0, iV 0] []) := hS'.out.set hpw 3 (sV s1)
  clear hS'
  have hT4 : Hid (LogSt p w ((w4.setCell ⟨w.heap.size + 1, 3, none⟩ (sV s1)).setCell ⟨w.heap.size + 1, 4, none⟩ (iV p1)) l4 #[iV k.toNat, iV n, sV s, sV s1, iV p1, iV 0, iV 0, iV 0, iV 0, iV 0, iV 0, iV 0, .string ⟨#[]⟩, .slice none 0 0, .string ⟨#[]⟩, iV 0, iV 0, iV 0, iV 0, iV 0, iV 0, iV 0, .string ⟨#[]⟩, iV 0, .slice none 0 0, .string ⟨#[]⟩, iV 0, iV 0, iV 0, iV 0, iV 0, iV 0] []) := hT3.out.set hpw 4 (iV p1)
  clear hT3
  have hT5 : Hid (LogSt p w (((w4.setCell ⟨w.heap.size + 1, 3, none⟩ (sV s1)).setCell ⟨w.heap.size + 1, 4, none⟩ (iV p1)).setCell ⟨w.heap.size + 1, 5, none⟩ (iV p2)) l4 #[iV k.toNat, iV n, sV s, sV s1, iV p1, iV p2, iV 0, iV 0, iV 0, iV 0, iV 0, iV 0, .string ⟨#[]⟩, .slice none 0 0, .string ⟨#[]⟩, iV 0, iV 0, iV 0, iV 0, iV 0, iV 0, iV 0, .string ⟨#[]⟩, iV 0, .slice none 0 0, .string ⟨#[]⟩, iV 0, iV 0, iV 0, iV 0, iV 0, iV 0] []) := hT4.out.set hpw 5 (iV p2)
  clear hT4
  have hT6 : Hid (LogSt p w ((((w4.setCell ⟨w.heap.size + 1, 3, none⟩ (sV s1)).setCell ⟨w.heap.size + 1, 4, none⟩ (iV p1)).setCell ⟨w.heap.size + 1, 5, none⟩ (iV p2)).setCell ⟨w.heap.size + 1, 6, none⟩ (iV p3)) l4 #[iV k.toNat, iV n, sV s, sV s1, iV p1, iV p2, iV p3, iV 0, iV 0, iV 0, iV 0, iV 0, .string ⟨#[]⟩, .slice none 0 0, .string ⟨#[]⟩, iV 0, iV 0, iV 0, iV 0, iV 0, iV 0, iV 0, .string ⟨#[]⟩, iV 0, .slice none 0 0, .string ⟨#[]⟩, iV 0, iV 0, iV 0, iV 0, iV 0, iV 0] []) := hT5.out.set hpw 6 (iV p3)
  clear hT5
  have hS5 : Hid (LogSt p w (((((w4.setCell ⟨w.heap.size + 1, 3, none⟩ (sV s1)).setCell ⟨w.heap.size + 1, 4, none⟩ (iV p1)).setCell ⟨w.heap.size + 1, 5, none⟩ (iV p2)).setCell ⟨w.heap.size + 1, 6, none⟩ (iV p3)).setCell ⟨w.heap.size + 1, 7, none⟩ (iV p4)) l4 #[iV k.toNat, iV n, sV s, sV s1, iV p1, iV p2, iV p3, iV p4, iV 0, iV 0, iV 0, iV 0, .string ⟨#[]⟩, .slice none 0 0, .string ⟨#[]⟩, iV 0, iV 0, iV 0, iV 0, iV 0, iV 0, iV 0, .string ⟨#[]⟩, iV 0, .slice none 0 0, .string ⟨#[]⟩, iV 0, iV 0, iV 0, iV 0, iV 0, iV 0] []) := hT6.out.set hpw 7 (iV p4)
  clear hT6
  go_wp2_with fail
  clear c3 f3 c4 f4 c5 f5 c6 f6 c7 f7
  refine (rrecord_any p l4 _ hS5.out.2.1).mono ?_
  rintro e w5 ⟨hg, hh⟩
  cases hl : recP l4 with
  | none =>
    rw [hl] at hh
    subst hh
    refine ⟨rfl, hS5.out.panic hg, ?_⟩
    simp only [logP, if_neg HK.out, hp1.out, hp2.out, hp3.out, hl, Option.bind_eq_bind, Option.bind_some, Option.bind_none]
  | some x =>
  obtain ⟨⟨r1, r2, r3, r4, s2, ct⟩, l5⟩ := x
  rw [hl] at hh
  simp only [recCells] at hh
  obtain ⟨AC, cc, rfl, hrd, hat, hR'⟩ := hh
  have hp4 := Lib.hid hl; clear hl
  have hS' : Hid (LogSt p w w5 l5 #[iV k.toNat, iV n, sV s, sV s1, iV p1, iV p2, iV p3, iV p4, iV 0, iV 0, iV 0, iV 0, .string ⟨#[]⟩, .slice none 0 0, .string ⟨#[]⟩, iV 0, iV 0, iV 0, iV 0, iV 0, iV 0, iV 0, .string ⟨#[]⟩, iV 0, .slice none 0 0, .string ⟨#[]⟩, iV 0, iV 0, iV 0, iV 0, iV 0, iV 0] [(AC, ct.map sV)]) := (hS5.out.step hpw hg hR').more hrd (fun a ha => by have := hat a ha; have := hS5.out.sz; omega)
  clear hrd hat
  have c8 : w5.cell? ⟨w.heap.size + 1, 8, none⟩ = some (iV 0) := cell_of_row w5 _ 8 _ _ _ hS'.out.2.2.2.1
  have f8 : w5.frozen? ⟨w.heap.size + 1, 8, none⟩ = false := frozen_row hS'.out.2.2.2.1 8
  have c9 : w5.cell? ⟨w.heap.size + 1, 9, none⟩ = some (iV 0) := cell_of_row w5 _ 9 _ _ _ hS'.out.2.2.2.1
  have f9 : w5.frozen? ⟨w.heap.size + 1, 9, none⟩ = false := frozen_row hS'.out.2.2.2.1 9
  have c10 : w5.cell? ⟨w.heap.size + 1, 10, none⟩ = some (iV 0) := cell_of_row w5 _ 10 _ _ _ hS'.out.2.2.2.1
  have f10 : w5.frozen? ⟨w.heap.size + 1, 10, none⟩ = false := frozen_row hS'.out.2.2.2.1 10
  have c11 : w5.cell? ⟨w.heap.size + 1, 11, none⟩ = some (iV 0) := cell_of_row w5 _ 11 _ _ _ hS'.out.2.2.2.1
  have f11 : w5.frozen? ⟨w.heap.size + 1, 11, none⟩ = false := frozen_row hS'.out.2.2.2.1 11
  have c12 : w5.cell? ⟨w.heap.size + 1, 12, none⟩ = some (.string ⟨#[]⟩) := cell_of_row w5 _ 12 _ _ _ hS'.out.2.2.2.1
  have f12 : w5.frozen? ⟨w.heap.size + 1, 12, none⟩ = false := frozen_row hS'.out.2.2.2.1 12
  have c13 : w5.cell? ⟨w.heap.size + 1, 13, none⟩ = some (.slice none 0 0) := cell_of_row w5 _ 13 _ _ _ hS'.out.2.2.2.1
  have f13 : w5.frozen? ⟨w.heap.size + 1, 13, none⟩ = false := frozen_row hS'.out.2.2.2.1 13
  clear hg hR' hS5
  have hT8 : Hid (LogSt p w (w5.setCell ⟨w.heap.size + 1, 8, none⟩ (iV r1)) l5 #[iV k.toNat, iV n, sV s, sV s1, iV p1, iV p2, iV p3, iV p4, iV r1, iV 0, iV 0, iV 0, .string ⟨#[]⟩, .slice none 0 0, .string ⟨#[]⟩, iV 0, iV 0, iV 0, iV 0, iV 0, iV 0, iV 0, .string ⟨#[]⟩, iV 0, .slice none 0 0, .string ⟨#[]⟩, iV 0, iV 0, iV 0, iV 0, iV 0, iV 0] [(AC, ct.map sV)]) := hS'.out.set hpw 8 (iV r1)
  clear hS'
  have hT9 : Hid (LogSt p w ((w5.setCell ⟨w.heap.size + 1, 8, none⟩ (iV r1)).setCell ⟨w.heap.size + 1, 9, none⟩ (iV r2)) l5 #[iV k.toNat, iV n, sV s, sV s1, iV p1, iV p2, iV p3, iV p4, iV r1, iV r2, iV 0, iV 0, .string ⟨#[]⟩, .slice none 0 0, .string ⟨#[]⟩, iV 0, iV 0, iV 0, iV 0, iV 0, iV 0, iV 0, .string ⟨#[]⟩, iV 0, .slice none 0 0, .string ⟨#[]⟩, iV 0, iV 0, iV 0, iV 0, iV 0, iV 0] [(AC, ct.map sV)]) := hT8.out.set hpw 9 (iV r2)
  clear hT8
  have hT10 : Hid (LogSt p w (((w5.setCell ⟨w.heap.size + 1, 8, none⟩ (iV r1)).setCell ⟨w.heap.size + 1, 9, none⟩ (iV r2)).setCell ⟨w.heap.size + 1, 10, none⟩ (iV r3)) l5 #[iV k.toNat, iV n, sV s, sV s1, iV p1, iV p2, iV p3, iV p4, iV r1, iV r2, iV r3, iV 0, .string ⟨#[]⟩, .slice none 0 0, .string ⟨#[]⟩, iV 0, iV 0, iV 0, iV 0, iV 0, iV 0, iV 0, .string ⟨#[]⟩, iV 0, .slice none 0 0, .string ⟨#[]⟩, iV 0, iV 0, iV 0, iV 0, iV 0, iV 0] [(AC, ct.map sV)]) := hT9.out.set hpw 10 (iV r3)
  clear hT9
  have hT11 : Hid (LogSt p w ((((w5.setCell ⟨w.heap.size + 1, 8, none⟩ (iV r1)).setCell ⟨w.heap.size + 1, 9, none⟩ (iV r2)).setCell ⟨w.heap.size + 1, 10, none⟩ (iV r3)).setCell ⟨w.heap.size + 1, 11, none⟩ (iV r4)) l5 #[iV k.toNat, iV n, sV s, sV s1, iV p1, iV p2, iV p3, iV p4, iV r1, iV r2, iV r3, iV r4, .string ⟨#[]⟩, .slice none 0 0, .string ⟨#[]⟩, iV 0, iV 0, iV 0, iV 0, iV 0, iV 0, iV 0, .string ⟨#[]⟩, iV 0, .slice none 0 0, .string ⟨#[]⟩, iV 0, iV 0, iV 0, iV 0, iV 0, iV 0] [(AC, ct.map sV)]) := hT10.out.set hpw 11 (iV r4)
  clear hT10
  have hT12 : Hid (LogSt p w (((((w5.setCell ⟨w.heap.size + 1, 8, none⟩ (iV r1)).setCell ⟨w.heap.size + 1, 9, none⟩ (iV r2)).setCell ⟨w.heap.size + 1, 10, none⟩ (iV r3)).setCell ⟨w.heap.size + 1, 11, none⟩ (iV r4)).setCell ⟨w.heap.size + 1, 12, none⟩ (sV s2)) l5 #[iV k.toNat, iV n, sV s, sV s1, iV p1, iV p2, iV p3, iV p4, iV r1, iV r2, iV r3, iV r4, sV s2, .slice none 0 0, .string ⟨#[]⟩, iV 0, iV 0, iV 0, iV 0, iV 0, iV 0, iV 0, .string ⟨#[]⟩, iV 0, .slice none 0 0, .string ⟨#[]⟩, iV 0, iV 0, iV 0, iV 0, iV 0, iV 0] [(AC, ct.map sV)]) := hT11.out.set hpw 12 (sV s2)
  clear hT11
  have hS6 : Hid (LogSt p w ((((((w5.setCell ⟨w.heap.size + 1, 8, none⟩ (iV r1)).setCell ⟨w.heap.size + 1, 9, none⟩ (iV r2)).setCell ⟨w.heap.size + 1, 10, none⟩ (iV r3)).setCell ⟨w.heap.size + 1, 11, none⟩ (iV r4)).setCell ⟨w.heap.size + 1, 12, none⟩ (sV s2)).setCell ⟨w.heap.size + 1, 13, none⟩ (.slice AC ct.length cc)) l5 #[iV k.toNat, iV n, sV s, sV s1, iV p1, iV p2, iV p3, iV p4, iV r1, iV r2, iV r3, iV r4, sV s2, .slice AC ct.length cc, .string ⟨#[]⟩, iV 0, iV 0, iV 0, iV 0, iV 0, iV 0, iV 0, .string ⟨#[]⟩, iV 0, .slice none 0 0, .string ⟨#[]⟩, iV 0, iV 0, iV 0, iV 0, iV 0, iV 0] [(AC, ct.map sV)]) := hT12.out.set hpw 13 (.slice AC ct.length cc)
  clear hT12
  go_wp2_with fail
  clear c8 f8 c9 f9 c10 f10 c11 f11 c12 f12 c13 f13
  refine (rpaper_any p l5 _ hS6.out.2.1).mono ?_
  rintro e w6 ⟨hg, hh⟩
  cases hl : paperP l5 with
  | none =>
    rw [hl] at hh
    subst hh
    refine ⟨rfl, hS6.out.panic hg, ?_⟩
    simp only [logP, if_neg HK.out, hp1.out, hp2.out, hp3.out, hp4.out, hl, Option.bind_eq_bind, Option.bind_some, Option.bind_none]
  | some x =>
  obtain ⟨⟨s3, q1, q2, q3, q4, q5, q6, q7, s4, q8, pt⟩, l6⟩ := x
  rw [hl] at hh
  simp only [paperCells] at hh
  obtain ⟨AP, cp, rfl, hrd, hat, hR'⟩ := hh
  have hp5 := Lib.hid hl; clear hl
  have hS' : Hid (LogSt p w w6 l6 #[iV k.toNat, iV n, sV s, sV s1, iV p1, iV p2, iV p3, iV p4, iV r1, iV r2, iV r3, iV r4, sV s2, .slice AC ct.length cc, .string ⟨#[]⟩, iV 0, iV 0, iV 0, iV 0, iV 0, iV 0, iV 0, .string ⟨#[]⟩, iV 0, .slice none 0 0, .string ⟨#[]⟩, iV 0, iV 0, iV 0, iV 0, iV 0, iV 0] ((AP, pt.map iV) :: [(AC, ct.map sV)])) := (hS6.out.step hpw hg hR').more hrd (fun a ha => by have := hat a ha; have := hS6.out.sz; omega)
  clear hrd hat
  have c14 : w6.cell? ⟨w.heap.size + 1, 14, none⟩ = some (.string ⟨#[]⟩) := cell_of_row w6 _ 14 _ _ _ hS'.out.2.2.2.1
  have f14 : w6.frozen? ⟨w.heap.size + 1, 14, none⟩ = false := frozen_row hS'.out.2.2.2.1 14
  have c15 : w6.cell? ⟨w.heap.size + 1, 15, none⟩ = some (iV 0) := cell_of_row w6 _ 15 _ _ _ hS'.out.2.2.2.1
  have f15 : w6.frozen? ⟨w.heap.size + 1, 15, none⟩ = false := frozen_row hS'.out.2.2.2.1 15
  have c16 : w6.cell? ⟨w.heap.size + 1, 16, none⟩ = some (iV 0) := cell_of_row w6 _ 16 _ _ _ hS'.out.2.2.2.1
  have f16 : w6.frozen? ⟨w.heap.size + 1, 16, none⟩ = false := frozen_row hS'.out.2.2.2.1 16
  have c17 : w6.cell? ⟨w.heap.size + 1, 17, none⟩ = some (iV 0) := cell_of_row w6 _ 17 _ _ _ hS'.out.2.2.2.1
  have f17 : w6.frozen? ⟨w.heap.size + 1, 17, none⟩ = false := frozen_row hS'.out.2.2.2.1 17
  have c18 : w6.cell? ⟨w.heap.size + 1, 18, none⟩ = some (iV 0) := cell_of_row w6 _ 18 _ _ _ hS'.out.2.2.2.1
  have f18 : w6.frozen? ⟨w.heap.size + 1, 18, none⟩ = false := frozen_row hS'.out.2.2.2.1 18
  have c19 : w6.cell? ⟨w.heap.size + 1, 19, none⟩ = some (iV 0) := cell_of_row w6 _ 19 _ _ _ hS'.out.2.2.2.1
  have f19 : w6.frozen? ⟨w.heap.size + 1, 19, none⟩ = false := frozen_row hS'.out.2.2.2.1 19
  have c20 : w6.cell? ⟨w.heap.size + 1, 20, none⟩ = some (iV 0) := cell_of_row w6 _ 20 _ _ _ hS'.out.2.2.2.1
  have f20 : w6.frozen? ⟨w.heap.size + 1, 20, none⟩ = false := frozen_row hS'.out.2.2.2.1 20
  have c21 : w6.cell? ⟨w.heap.size + 1, 21, none⟩ = some (iV 0) := cell_of_row w6 _ 21 _ _ _ hS'.out.2.2.2.1
  have f21 : w6.frozen? ⟨w.heap.size + 1, 21, none⟩ = false := frozen_row hS'.out.2.2.2.1 21
  have c22 : w6.cell? ⟨w.heap.size + 1, 22, none⟩ = some (.string ⟨#[]⟩) := cell_of_row w6 _ 22 _ _ _ hS'.out.2.2.2.1
  have f22 : w6.frozen? ⟨w.heap.size + 1, 22, none⟩ = false := frozen_row hS'.out.2.2.2.1 22
  have c23 : w6.cell? ⟨w.heap.size + 1, 23, none⟩ = some (iV 0) := cell_of_row w6 _ 23 _ _ _ hS'.out.2.2.2.1
  have f23 : w6.frozen? ⟨w.heap.size + 1, 23, none⟩ = false := frozen_row hS'.out.2.2.2.1 23
  have c24 : w6.cell? ⟨w.heap.size + 1, 24, none⟩ = some (.slice none 0 0) := cell_of_row w6 _ 24 _ _ _ hS'.out.2.2.2.1
  have f24 : w6.frozen? ⟨w.heap.size + 1, 24, none⟩ = false := frozen_row hS'.out.2.2.2.1 24
  clear hg hR' hS6
  have hT14 : Hid (LogSt p w (w6.setCell ⟨w.heap.size + 1, 14, none⟩ (sV s3)) l6 #[iV k.toNat, iV n, sV s, sV s1, iV p1, iV p2, iV p3, iV p4, iV r1, iV r2, iV r3, iV r4, sV s2, .slice AC ct.length cc, sV s3, iV 0, iV 0, iV 0, iV 0, iV 0, iV 0, iV 0, .string ⟨#[]⟩, iV 0, .slice none 0 0, .string ⟨#[]⟩, iV 0, iV 0, iV 0, iV 0, iV 0, iV 0] ((AP, pt.map iV) :: [(AC, ct.map sV)])) := hS'.out.set hpw 14 (sV s3)
  clear hS'
  have hT15 : Hid (LogSt p w ((w6.setCell ⟨w.heap.size + 1, 14, none⟩ (sV s3)).setCell ⟨w.heap.size + 1, 15, none⟩ (iV q1)) l6 #[iV k.toNat, iV n, sV s, sV s1, iV p1, iV p2, iV p3, iV p4, iV r1, iV r2, iV r3, iV r4, sV s2, .slice AC ct.length cc, sV s3, iV q1, iV 0, iV 0, iV 0, iV 0, iV 0, iV 0, .string ⟨#[]⟩, iV 0, .slice none 0 0, .string ⟨#[]⟩, iV 0, iV 0, iV 0, iV 0, iV 0, iV 0] ((AP, pt.map iV) :: [(AC, ct.map sV)])) := hT14.out.set hpw 15 (iV q1)
  clear hT14
  have hT16 : Hid (LogSt p w (((w6.setCell ⟨w.heap.size + 1, 14, none⟩ (sV s3)).setCell ⟨w.heap.size + 1, 15, none⟩ (iV q1)).setCell ⟨w.heap.size + 1, 16, none⟩ (iV q2)) l6 #[iV k.toNat, iV n, sV s, sV s1, iV p1, iV p2, iV p3, iV p4, iV r1, iV r2, iV r3, iV r4, sV s2, .slice AC ct.length cc, sV s3, iV q1, iV q2, iV 0, iV 0, iV 0, iV 0, iV 0, .string ⟨#[]⟩, iV 0, .slice none 0 0, .string ⟨#[]⟩, iV 0, iV 0, iV 0, iV 0, iV 0, iV 0] ((AP, pt.map iV) :: [(AC, ct.map sV)])) := hT15.out.set hpw 16 (iV q2)
  clear hT15
  have hT17 : Hid (LogSt p w ((((w6.setCell ⟨w.heap.size + 1, 14, none⟩ (sV s3)).setCell ⟨w.heap.size + 1, 15, none⟩ (iV q1)).setCell ⟨w.heap.size + 1, 16, none⟩ (iV q2)).setCell ⟨w.heap.size + 1, 17, none⟩ (iV q3)) l6 #[iV k.toNat, iV n, sV s, sV s1, iV p1, iV p2, iV p3, iV p4, iV r1, iV r2, iV r3, iV r4, sV s2, .slice AC ct.length cc, sV s3, iV q1, iV q2, iV q3, iV 0, iV 0, iV 0, iV 0, .string ⟨#[]⟩, iV 0, .slice none 0 0, .string ⟨#[]⟩, iV 0, iV 0, iV 0, iV 0, iV 0, iV 0] ((AP, pt.map iV) :: [(AC, ct.map sV)])) := hT16.out.set hpw 17 (iV q3)
  clear hT16
  have hT18 : Hid (LogSt p w (((((w6.setCell ⟨w.heap.size + 1, 14, none⟩ (sV s3)).setCell ⟨w.heap.size + 1, 15, none⟩ (iV q1)).setCell ⟨w.heap.size + 1, 16, none⟩ (iV q2)).setCell ⟨w.heap.size + 1, 17, none⟩ (iV q3)).setCell ⟨w.heap.size + 1, 18, none⟩ (iV q4)) l6 #[iV k.toNat, iV n, sV s, sV s1, iV p1, iV p2, iV p3, iV p4, iV r1, iV r2, iV r3, iV r4, sV s2, .slice AC ct.length cc, sV s3, iV q1, iV q2, iV q3, iV q4, iV 0, iV 0, iV 0, .string ⟨#[]⟩, iV 0, .slice none 0 0, .string ⟨#[]⟩, iV 0, iV 0, iV 0, iV 0, iV 0, iV 0] ((AP, pt.map iV) :: [(AC, ct.map sV)])) := hT17.out.set hpw 18 (iV q4)
  clear hT17
  have hT19 : Hid (LogSt p w ((((((w6.setCell ⟨w.heap.size + 1, 14, none⟩ (sV s3)).setCell ⟨w.heap.size + 1, 15, none⟩ (iV q1)).setCell ⟨w.heap.size + 1, 16, none⟩ (iV q2)).setCell ⟨w.heap.size + 1, 17, none⟩ (iV q3)).setCell ⟨w.heap.size + 1, 18, none⟩ (iV q4)).setCell ⟨w.heap.size + 1, 19, none⟩ (iV q5)) l6 #[iV k.toNat, iV n, sV s, sV s1, iV p1, iV p2, iV p3, iV p4, iV r1, iV r2, iV r3, iV r4, sV s2, .slice AC ct.length cc, sV s3, iV q1, iV q2, iV q3, iV q4, iV q5, iV 0, iV 0, .string ⟨#[]⟩, iV 0, .slice none 0 0, .string ⟨#[]⟩, iV 0, iV 0, iV 0, iV 0, iV 0, iV 0] ((AP, pt.map iV) :: [(AC, ct.map sV)])) := hT18.out.set hpw 19 (iV q5)
  clear hT18
  have hT20 : Hid (LogSt p w (((((((w6.setCell ⟨w.heap.size + 1, 14, none⟩ (sV s3)).setCell ⟨w.heap.size + 1, 15, none⟩ (iV q1)).setCell ⟨w.heap.size + 1, 16, none⟩ (iV q2)).setCell ⟨w.heap.size + 1, 17, none⟩ (iV q3)).setCell ⟨w.heap.size + 1, 18, none⟩ (iV q4)).setCell ⟨w.heap.size + 1, 19, none⟩ (iV q5)).setCell ⟨w.heap.size + 1, 20, none⟩ (iV q6)) l6 #[iV k.toNat, iV n, sV s, sV s1, iV p1, iV p2, iV p3, iV p4, iV r1, iV r2, iV r3, iV r4, sV s2, .slice AC ct.length cc, sV s3, iV q1, iV q2, iV q3, iV q4, iV q5, iV q6, iV 0, .string ⟨#[]⟩, iV 0, .slice none 0 0, .string ⟨#[]⟩, iV 0, iV 0, iV 0, iV 0, iV 0, iV 0] ((AP, pt.map iV) :: [(AC, ct.map sV)])) := hT19.out.set hpw 20 (iV q6)
  clear hT19
  have hT21 : Hid (LogSt p w ((((((((w6.setCell ⟨w.heap.size + 1, 14, none⟩ (sV s3)).setCell ⟨w.heap.size + 1, 15, none⟩ (iV q1)).setCell ⟨w.heap.size + 1, 16, none⟩ (iV q2)).setCell ⟨w.heap.size + 1, 17, none⟩ (iV q3)).setCell ⟨w.heap.size + 1, 18, none⟩ (iV q4)).setCell ⟨w.heap.size + 1, 19, none⟩ (iV q5)).setCell ⟨w.heap.size + 1, 20, none⟩ (iV q6)).setCell ⟨w.heap.size + 1, 21, none⟩ (iV q7)) l6 #[iV k.toNat, iV n, sV s, sV s1, iV p1, iV p2, iV p3, iV p4, iV r1, iV r2, iV r3, iV r4, sV s2, .slice AC ct.length cc, sV s3, iV q1, iV q2, iV q3, iV q4, iV q5, iV q6, iV q7, .string ⟨#[]⟩, iV 0, .slice none 0 0, .string ⟨#[]⟩, iV 0, iV 0, iV 0, iV 0, iV 0, iV 0] ((AP, pt.map iV) :: [(AC, ct.map sV)])) := hT20.out.set hpw 21 (iV q7)
  clear hT20
  have hT22 : Hid (LogSt p w (((((((((w6.setCell ⟨w.heap.size + 1, 14, none⟩ (sV s3)).setCell ⟨w.heap.size + 1, 15, none⟩ (iV q1)).setCell ⟨w.heap.size + 1, 16, none⟩ (iV q2)).setCell ⟨w.heap.size + 1, 17, none⟩ (iV q3)).setCell ⟨w.heap.size + 1, 18, none⟩ (iV q4)).setCell ⟨w.heap.size + 1, 19, none⟩ (iV q5)).setCell ⟨w.heap.size + 1, 20, none⟩ (iV q6)).setCell ⟨w.heap.size + 1, 21, none⟩ (iV q7)).setCell ⟨w.heap.size + 1, 22, none⟩ (sV s4)) l6 #[iV k.toNat, iV n, sV s, sV s1, iV p1, iV p2, iV p3, iV p4, iV r1, iV r2, iV r3, iV r4, sV s2, .slice AC ct.length cc, sV s3, iV q1, iV q2, iV q3, iV q4, iV q5, iV q6, iV q7, sV s4, iV 0, .slice none 0 0, .string ⟨#[]⟩, iV 0, iV 0, iV 0, iV 0, iV 0, iV 0] ((AP, pt.map iV) :: [(AC, ct.map sV)])) := hT21.out.set hpw 22 (sV s4)
  clear hT21
  have hT23 : Hid (LogSt p w ((((((((((w6.setCell ⟨w.heap.size + 1, 14, none⟩ (sV s3)).setCell ⟨w.heap.size + 1, 15, none⟩ (iV q1)).setCell ⟨w.heap.size + 1, 16, none⟩ (iV q2)).setCell ⟨w.heap.size + 1, 17, none⟩ (iV q3)).setCell ⟨w.heap.size + 1, 18, none⟩ (iV q4)).setCell ⟨w.heap.size + 1, 19, none⟩ (iV q5)).setCell ⟨w.heap.size + 1, 20, none⟩ (iV q6)).setCell ⟨w.heap.size + 1, 21, none⟩ (iV q7)).setCell ⟨w.heap.size + 1, 22, none⟩ (sV s4)).setCell ⟨w.heap.size + 1, 23, none⟩ (iV q8)) l6 #[iV k.toNat, iV n, sV s, sV s1, iV p1, iV p2, iV p3, iV p4, iV r1, iV r2, iV r3, iV r4, sV s2, .slice AC ct.length cc, sV s3, iV q1, iV q2, iV q3, iV q4, iV q5, iV q6, iV q7, sV s4, iV q8, .slice none 0 0, .string ⟨#[]⟩, iV 0, iV 0, iV 0, iV 0, iV 0, iV 0] ((AP, pt.map iV) :: [(AC, ct.map sV)])) := hT22.out.set hpw 23 (iV q8)
  clear hT22
  have hS7 : Hid (LogSt p w (((((((((((w6.setCell ⟨w.heap.size + 1, 14, none⟩ (sV s3)).setCell ⟨w.heap.size + 1, 15, none⟩ (iV q1)).setCell ⟨w.heap.size + 1, 16, none⟩ (iV q2)).setCell ⟨w.heap.size + 1, 17, none⟩ (iV q3)).setCell ⟨w.heap.size + 1, 18, none⟩ (iV q4)).setCell ⟨w.heap.size + 1, 19, none⟩ (iV q5)).setCell ⟨w.heap.size + 1, 20, none⟩ (iV q6)).setCell ⟨w.heap.size + 1, 21, none⟩ (iV q7)).setCell ⟨w.heap.size + 1, 22, none⟩ (sV s4)).setCell ⟨w.heap.size + 1, 23, none⟩ (iV q8)).setCell ⟨w.heap.size + 1, 24, none⟩ (.slice AP pt.length cp)) l6 #[iV k.toNat, iV n, sV s, sV s1, iV p1, iV p2, iV p3, iV p4, iV r1, iV r2, iV r3, iV r4, sV s2, .slice AC ct.length cc, sV s3, iV q1, iV q2, iV q3, iV q4, iV q5, iV q6, iV q7, sV s4, iV q8, .slice AP pt.length cp, .string ⟨#[]⟩, iV 0, iV 0, iV 0, iV 0, iV 0, iV 0] ((AP, pt.map iV) :: [(AC, ct.map sV)])) := hT23.out.set hpw 24 (.slice AP pt.length cp)
  clear hT23
  go_wp2_with fail
  clear c14 f14 c15 f15 c16 f16 c17 f17 c18 f18 c19 f19 c20 f20 c21 f21 c22 f22 c23 f23 c24 f24
  refine (rpost_any p l6 _ hS7.out.2.1).mono ?_
  rintro e w7 ⟨hg, hh⟩
  cases hl : postP l6 with
  | none =>
    rw [hl] at hh
    subst hh
    refine ⟨rfl, hS7.out.panic hg, ?_⟩
    simp only [logP, if_neg HK.out, hp1.out, hp2.out, hp3.out, hp4.out, hp5.out, hl, Option.bind_eq_bind, Option.bind_some, Option.bind_none]
  | some x =>
  obtain ⟨⟨s5, p5, p6, p7, p8⟩, l7⟩ := x
  rw [hl] at hh
  simp only [postCells] at hh
  obtain ⟨rfl, hR'⟩ := hh
  have hp6 := Lib.hid hl; clear hl
  have hS' := Lib.hid (hS7.out.step hpw hg hR')
  have c25 : w7.cell? ⟨w.heap.size + 1, 25, none⟩ = some (.string ⟨#[]⟩) := cell_of_row w7 _ 25 _ _ _ hS'.out.2.2.2.1
  have f25 : w7.frozen? ⟨w.heap.size + 1, 25, none⟩ = false := frozen_row hS'.out.2.2.2.1 25
  have c26 : w7.cell? ⟨w.heap.size + 1, 26, none⟩ = some (iV 0) := cell_of_row w7 _ 26 _ _ _ hS'.out.2.2.2.1
  have f26 : w7.frozen? ⟨w.heap.size + 1, 26, none⟩ = false := frozen_row hS'.out.2.2.2.1 26
  have c27 : w7.cell? ⟨w.heap.size + 1, 27, none⟩ = some (iV 0) := cell_of_row w7 _ 27 _ _ _ hS'.out.2.2.2.1
  have f27 : w7.frozen? ⟨w.heap.size + 1, 27, none⟩ = false := frozen_row hS'.out.2.2.2.1 27
  have c28 : w7.cell? ⟨w.heap.size + 1, 28, none⟩ = some (iV 0) := cell_of_row w7 _ 28 _ _ _ hS'.out.2.2.2.1
  have f28 : w7.frozen? ⟨w.heap.size + 1, 28, none⟩ = false := frozen_row hS'.out.2.2.2.1 28
  have c29 : w7.cell? ⟨w.heap.size + 1, 29, none⟩ = some (iV 0) := cell_of_row w7 _ 29 _ _ _ hS'.out.2.2.2.1
  have f29 : w7.frozen? ⟨w.heap.size + 1, 29, none⟩ = false := frozen_row hS'.out.2.2.2.1 29
  clear hg hR' hS7
  have hT25 : Hid (LogSt p w (w7.setCell ⟨w.heap.size + 1, 25, none⟩ (sV s5)) l7 #[iV k.toNat, iV n, sV s, sV s1, iV p1, iV p2, iV p3, iV p4, iV r1, iV r2, iV r3, iV r4, sV s2, .slice AC ct.length cc, sV s3, iV q1, iV q2, iV q3, iV q4, iV q5, iV q6, iV q7, sV s4, iV q8, .slice AP pt.length cp, sV s5, iV 0, iV 0, iV 0, iV 0, iV 0, iV 0] ((AP, pt.map iV) :: [(AC, ct.map sV)])) := hS'.out.set hpw 25 (sV s5)
  clear hS'
  have hT26 : Hid (LogSt p w ((w7.setCell ⟨w.heap.size + 1, 25, none⟩ (sV s5)).setCell ⟨w.heap.size + 1, 26, none⟩ (iV p5)) l7 #[iV k.toNat, iV n, sV s, sV s1, iV p1, iV p2, iV p3, iV p4, iV r1, iV r2, iV r3, iV r4, sV s2, .slice AC ct.length cc, sV s3, iV q1, iV q2, iV q3, iV q4, iV q5, iV q6, iV q7, sV s4, iV q8, .slice AP pt.length cp, sV s5, iV p5, iV 0, iV 0, iV 0, iV 0, iV 0] ((AP, pt.map iV) :: [(AC, ct.map sV)])) := hT25.out.set hpw 26 (iV p5)
  clear hT25
  have hT27 : Hid (LogSt p w (((w7.setCell ⟨w.heap.size + 1, 25, none⟩ (sV s5)).setCell ⟨w.heap.size + 1, 26, none⟩ (iV p5)).setCell ⟨w.heap.size + 1, 27, none⟩ (iV p6)) l7 #[iV k.toNat, iV n, sV s, sV s1, iV p1, iV p2, iV p3, iV p4, iV r1, iV r2, iV r3, iV r4, sV s2, .slice AC ct.length cc, sV s3, iV q1, iV q2, iV q3, iV q4, iV q5, iV q6, iV q7, sV s4, iV q8, .slice AP pt.length cp, sV s5, iV p5, iV p6, iV 0, iV 0, iV 0, iV 0] ((AP, pt.map iV) :: [(AC, ct.map sV)])) := hT26.out.set hpw 27 (iV p6)
  clear hT26
  have hT28 : Hid (LogSt p w ((((w7.setCell ⟨w.heap.size + 1, 25, none⟩ (sV s5)).setCell ⟨w.heap.size + 1, 26, none⟩ (iV p5)).setCell ⟨w.heap.size + 1, 27, none⟩ (iV p6)).setCell ⟨w.heap.size + 1, 28, none⟩ (iV p7)) l7 #[iV k.toNat, iV n, sV s, sV s1, iV p1, iV p2, iV p3, iV p4, iV r1, iV r2, iV r3, iV r4, sV s2, .slice AC ct.length cc, sV s3, iV q1, iV q2, iV q3, iV q4, iV q5, iV q6, iV q7, sV s4, iV q8, .slice AP pt.length cp, sV s5, iV p5, iV p6, iV p7, iV 0, iV 0, iV 0] ((AP, pt.map iV) :: [(AC, ct.map sV)])) := hT27.out.set hpw 28 (iV p7)
  clear hT27
  have hS8 : Hid (LogSt p w (((((w7.setCell ⟨w.heap.size + 1, 25, none⟩ (sV s5)).setCell ⟨w.heap.size + 1, 26, none⟩ (iV p5)).setCell ⟨w.heap.size + 1, 27, none⟩ (iV p6)).setCell ⟨w.heap.size + 1, 28, none⟩ (iV p7)).setCell ⟨w.heap.size + 1, 29, none⟩ (iV p8)) l7 #[iV k.toNat, iV n, sV s, sV s1, iV p1, iV p2, iV p3, iV p4, iV r1, iV r2, iV r3, iV r4, sV s2, .slice AC ct.length cc, sV s3, iV q1, iV q2, iV q3, iV q4, iV q5, iV q6, iV q7, sV s4, iV q8, .slice AP pt.length cp, sV s5, iV p5, iV p6, iV p7, iV p8, iV 0, iV 0] ((AP, pt.map iV) :: [(AC, ct.map sV)])) := hT28.out.set hpw 29 (iV p8)
  clear hT28
  go_wp2_with fail
  clear c25 f25 c26 f26 c27 f27 c28 f28 c29 f29
  refine (rnumber_any p l7 _ hS8.out.2.1).mono ?_
  rintro e w8 ⟨hg, hh⟩
  cases hl : numP l7 with
  | none =>
    rw [hl] at hh
    subst hh
    refine ⟨rfl, hS8.out.panic hg, ?_⟩
    simp only [logP, if_neg HK.out, hp1.out, hp2.out, hp3.out, hp4.out, hp5.out, hp6.out, hl, Option.bind_eq_bind, Option.bind_some, Option.bind_none]
  | some x =>
  obtain ⟨m1, l8⟩ := x
  rw [hl] at hh
  obtain ⟨rfl, hR'⟩ := hh
  have hp7 := Lib.hid hl; clear hl
  have hS' := Lib.hid (hS8.out.step hpw hg hR')
  have c30 : w8.cell? ⟨w.heap.size + 1, 30, none⟩ = some (iV 0) := cell_of_row w8 _ 30 _ _ _ hS'.out.2.2.2.1
  have f30 : w8.frozen? ⟨w.heap.size + 1, 30, none⟩ = false := frozen_row hS'.out.2.2.2.1 30
  clear hg hR' hS8
  have hS9 : Hid (LogSt p w (w8.setCell ⟨w.heap.size + 1, 30, none⟩ (iV m1)) l8 #[iV k.toNat, iV n, sV s, sV s1, iV p1, iV p2, iV p3, iV p4, iV r1, iV r2, iV r3, iV r4, sV s2, .slice AC ct.length cc, sV s3, iV q1, iV q2, iV q3, iV q4, iV q5, iV q6, iV q7, sV s4, iV q8, .slice AP pt.length cp, sV s5, iV p5, iV p6, iV p7, iV p8, iV m1, iV 0] ((AP, pt.map iV) :: [(AC, ct.map sV)])) := hS'.out.set hpw 30 (iV m1)
  clear hS'
  go_wp2_with fail
  clear c30 f30
  refine (rnumber_any p l8 _ hS9.out.2.1).mono ?_
  rintro e w9 ⟨hg, hh⟩
  cases hl : numP l8 with
  | none =>
    rw [hl] at hh
    subst hh
    refine ⟨rfl, hS9.out.panic hg, ?_⟩
    simp only [logP, if_neg HK.out, hp1.out, hp2.out, hp3.out, hp4.out, hp5.out, hp6.out, hp7.out, hl, Option.bind_eq_bind, Option.bind_some, Option.bind_none]
  | some x =>
  obtain ⟨m2, l9⟩ := x
  rw [hl] at hh
  obtain ⟨rfl, hR'⟩ := hh
  have hp8 := Lib.hid hl; clear hl
  have hS' := Lib.hid (hS9.out.step hpw hg hR')
  have c31 : w9.cell? ⟨w.heap.size + 1, 31, none⟩ = some (iV 0) := cell_of_row w9 _ 31 _ _ _ hS'.out.2.2.2.1
  have f31 : w9.frozen? ⟨w.heap.size + 1, 31, none⟩ = false := frozen_row hS'.out.2.2.2.1 31
  clear hg hR' hS9
  have hS10 : Hid (LogSt p w (w9.setCell ⟨w.heap.size + 1, 31, none⟩ (iV m2)) l9 #[iV k.toNat, iV n, sV s, sV s1, iV p1, iV p2, iV p3, iV p4, iV r1, iV r2, iV r3, iV r4, sV s2, .slice AC ct.length cc, sV s3, iV q1, iV q2, iV q3, iV q4, iV q5, iV q6, iV q7, sV s4, iV q8, .slice AP pt.length cp, sV s5, iV p5, iV p6, iV p7, iV p8, iV m1, iV m2] ((AP, pt.map iV) :: [(AC, ct.map sV)])) := hS'.out.set hpw 31 (iV m2)
  clear hS'
  obtain ⟨A9, c9, hc9, _, _, _, _, hA9⟩ := hS10.out.2.1
  have hrest : w9.cell? ⟨p, 0, none⟩ = some (.slice A9 l9.length c9) := by
    rw [World.cell?_of_block (w := w9) (a := ⟨p, 0, none⟩) (Below.heap_setCell _ _ _ _ (by show p ≠ w.heap.size + 1; omega))] at hc9
    exact hc9
  clear hc9 hA9
  by_cases hlen : l9.length > 0
  · have hN : Hid (logP (k :: l1) = none) := by
      show _ = _
      simp only [logP, if_neg HK.out, hp1.out, hp2.out, hp3.out, hp4.out, hp5.out, hp6.out, hp7.out, hp8.out, Option.bind_eq_bind, Option.bind_some]
      rw [if_pos hlen]
    have hlen' : (0 : Int) < (l9.length : Int) := by omega
    go_wp2
    exact ⟨rfl, hS10.out.1, by rw [hN.out]⟩
  · have hN : Hid (logP (k :: l1) = some ⟨k.toNat, n, s, ⟨s1, p1, p2, p3, p4⟩, ⟨r1, r2, r3, r4, s2, ct⟩, ⟨s3, q1, q2, q3, q4, q5, q6, q7, s4, q8, pt⟩, ⟨s5, p5, p6, p7, p8⟩, m1, m2⟩) := by
      show _ = _
      simp only [logP, if_neg HK.out, hp1.out, hp2.out, hp3.out, hp4.out, hp5.out, hp6.out, hp7.out, hp8.out, Option.bind_eq_bind, Option.bind_some]
      rw [if_neg hlen]
    have hlen' : ¬ (0 : Int) < (l9.length : Int) := by omega
    have hne : w.heap.size ≠ w.heap.size + 1 := by omega
    have h1c : Hid ((#[iV k.toNat, iV n, sV s, sV s1, iV p1, iV p2, iV p3, iV p4, iV r1, iV r2, iV r3, iV r4, sV s2, .slice AC ct.length cc, sV s3, iV q1, iV q2, iV q3, iV q4, iV q5, iV q6, iV q7, sV s4, iV q8, .slice AP pt.length cp, sV s5, iV p5, iV p6, iV p7, iV p8, iV m1, iV m2] : Array Value).all (·.oneCell') = true) := by show _ = _; simp [Value.oneCell']
    go_wp2_with (first | (refine wpList_load_row (by rfl) 37 (.tmp 3) (by rfl) (w.heap.size + 1) (by rfl) 37 #[iV k.toNat, iV n, sV s, sV s1, iV p1, iV p2, iV p3, iV p4, iV r1, iV r2, iV r3, iV r4, sV s2, .slice AC ct.length cc, sV s3, iV q1, iV q2, iV q3, iV q4, iV q5, iV q6, iV q7, sV s4, iV q8, .slice AP pt.length cp, sV s5, iV p5, iV p6, iV p7, iV p8, iV m1, iV m2] (0, 0) _ hS10.out.2.2.2.1 Try.underlying37 rfl lgInf ?_) | (refine wpList_store_row (by rfl) 37 (.tmp 2) (.tmp 55) (by rfl) w.heap.size #[iV k.toNat, iV n, sV s, sV s1, iV p1, iV p2, iV p3, iV p4, iV r1, iV r2, iV r3, iV r4, sV s2, .slice AC ct.length cc, sV s3, iV q1, iV q2, iV q3, iV q4, iV q5, iV q6, iV q7, sV s4, iV q8, .slice AP pt.length cp, sV s5, iV p5, iV p6, iV p7, iV p8, iV m1, iV m2] (by rfl) (by rfl) 37 #[iV 0, iV 0, .string ⟨#[]⟩, .string ⟨#[]⟩, iV 0, iV 0, iV 0, iV 0, iV 0, iV 0, iV 0, iV 0, .string ⟨#[]⟩, .slice none 0 0, .string ⟨#[]⟩, iV 0, iV 0, iV 0, iV 0, iV 0, iV 0, iV 0, .string ⟨#[]⟩, iV 0, .slice none 0 0, .string ⟨#[]⟩, iV 0, iV 0, iV 0, iV 0, iV 0, iV 0] hS10.out.2.2.1 lgInf rfl h1c.out ?_))
    have hrow := setRow_heap _ w.heap.size _ #[iV k.toNat, iV n, sV s, sV s1, iV p1, iV p2, iV p3, iV p4, iV r1, iV r2, iV r3, iV r4, sV s2, .slice AC ct.length cc, sV s3, iV q1, iV q2, iV q3, iV q4, iV q5, iV q6, iV q7, sV s4, iV q8, .slice AP pt.length cp, sV s5, iV p5, iV p6, iV p7, iV p8, iV m1, iV m2] _ _ hS10.out.2.2.1
    refine bodyPost_ret (v := .agg #[iV k.toNat, iV n, sV s, sV s1, iV p1, iV p2, iV p3, iV p4, iV r1, iV r2, iV r3, iV r4, sV s2, .slice AC ct.length cc, sV s3, iV q1, iV q2, iV q3, iV q4, iV q5, iV q6, iV q7, sV s4, iV q8, .slice AP pt.length cp, sV s5, iV p5, iV p6, iV p7, iV p8, iV m1, iV m2]) (results_cell_row (p := 2) (ty := 37) rfl _ _ w.heap.size 37 #[iV k.toNat, iV n, sV s, sV s1, iV p1, iV p2, iV p3, iV p4, iV r1, iV r2, iV r3, iV r4, sV s2, .slice AC ct.length cc, sV s3, iV q1, iV q2, iV q3, iV q4, iV q5, iV q6, iV q7, sV s4, iV q8, .slice AP pt.length cp, sV s5, iV p5, iV p6, iV p7, iV p8, iV m1, iV m2] (0, 0) _ ?_ hrow Try.underlying37 rfl lgInf) rfl ?_
    · rfl
    refine ⟨g_row hS10.out.1 (Nat.le_refl _) _, ?_⟩
    rw [hN.out]
    have r1 := hS10.out.2.2.2.2 _ (List.mem_cons_of_mem _ List.mem_cons_self)
    have r2 := hS10.out.2.2.2.2 _ List.mem_cons_self
    exact ⟨AC, cc, AP, cp, rfl, rd_row r1.1 (fun a ha => by have := r1.2 a ha; omega) _, rd_row r2.1 (fun a ha => by have := r2.2 a ha; omega) _, fun a ha => ⟨by have := r1.2 a ha; omega, by rw [setRow_size]; exact (r1.2 a ha).2⟩, fun a ha => ⟨by have := r2.2 a ha; omega, by rw [setRow_size]; exact (r2.2 a ha).2⟩⟩
end Go.Proofs.Ytoaembpakmpolaa
