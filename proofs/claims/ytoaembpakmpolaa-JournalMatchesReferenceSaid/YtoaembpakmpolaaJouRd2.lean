/-
  The walks over the reader of package journal: posts, records, papers. (Written by a program: wip/jou/gen_rd.py.)
-/
import Derived.Test.YtoaembpakmpolaaJouRd
import Derived.Test.YtoaembpakmpolaaJouEnc
import Derived.Deep.RegionHeld3
import Derived.Deep.RegionLaw
namespace Go.Proofs.Ytoaembpakmpolaa
open Go.RowKit Jou
attribute [local go_sem] ba_get ba_extract ba_append

theorem strInfo : (Try.prog.info? 9).map (fun i => (i.zero, i.size, i.bytes)) = some (some (.string ⟨#[]⟩), 1, 16) := by kernel_rfl
theorem intInfo : (Try.prog.info? 3).map (fun i => (i.zero, i.size, i.bytes)) = some (some (.int .i64 0), 1, 8) := by kernel_rfl
theorem own_g {w w' : World} {base p : Nat} {e : TypeId} {size : Nat} {v : Value} {n : Nat} {xs : List Value} (h : w.ownsRow base e size v n xs) (hg : w.grownBy w' (some p)) (hp : p < base) : w'.ownsRow base e size v n xs :=
  h.kept hg (by
    cases hv : v.ownBlock with
    | none => exact .inl rfl
    | some g => have := (h.lt g hv).1; exact .inr (by simp; omega))
theorem block_app {w7 w8 : World} {o : Obj} {B base : Nat} {v : Value} {e : TypeId} {n : Nat} {xs : List Value} (hown : w7.ownsRow base e 1 v n xs) (hg : (w7.alloc o).grownBy w8 v.ownBlock) (hB : B < base) (hl : B < w7.heap.size) : w8.heap[B]? = w7.heap[B]? := by
  refine (hg.block B (by simp; omega) ?_).trans (Below.heap_alloc _ _ _ hl)
  intro h
  have := (hown.lt B h.symm).1
  omega
theorem g_own {w w7 w8 : World} {r : Option Nat} {base : Nat} {v : Value} {e : TypeId} {n : Nat} {xs : List Value} (h : w.grownBy w7 r) (hown : w7.ownsRow base e 1 v n xs) (hg : w7.grownBy w8 v.ownBlock) (hb : w.heap.size ≤ base) : w.grownBy w8 r :=
  ⟨hg.os.trans h.os, hg.tape.trans h.tape, hg.output.trans h.output, Nat.le_trans h.size hg.size, fun i hi hr => (hg.block i (Nat.lt_of_lt_of_le hi h.size) (fun e => by have := (hown.lt i e.symm).1; omega)).trans (h.block i hi hr)⟩
theorem Rr.own {w7 w8 : World} {p : Nat} {l : List UInt8} {base : Nat} {v : Value} {e : TypeId} {n : Nat} {xs : List Value} (h : Rr w7 p l) (hown : w7.ownsRow base e 1 v n xs) (hg : w7.grownBy w8 v.ownBlock) (hb : p < base) : Rr w8 p l := by
  have hp := h.lt
  obtain ⟨A, c, h1, h2, h3, h4, h5, h6⟩ := h
  have hk : ∀ i, i < w7.heap.size → i < base → w8.heap[i]? = w7.heap[i]? := fun i hi hb => hg.block i hi (fun e => by have := (hown.lt i e.symm).1; omega)
  have hb := hk p hp hb
  exact ⟨A, c, (World.cell?_of_block (a := ⟨p, 0, none⟩) hb).trans h1, (World.frozen?_of_block (a := ⟨p, 0, none⟩) hb).trans h2, h3, h4, h5.same hg.size (fun a ha hl => hk _ hl (by have := h6 a ha; omega)), h6⟩
theorem own_set {w : World} {base : Nat} {v : Value} {e : TypeId} {n : Nat} {xs : List Value} (h : w.ownsRow base e 1 v n xs) {B : Nat} (hB : B < base) (j : Nat) (x : Value) : (w.setCell ⟨B, j, none⟩ x).ownsRow base e 1 v n xs :=
  h.kept (g_set w B j x) (by
    cases hv : v.ownBlock with
    | none => exact .inl rfl
    | some g => have := (h.lt g hv).1; exact .inr (by simp; omega))
theorem own_at {w : World} {base : Nat} {e : TypeId} {A : Option Addr} {c n : Nat} {xs : List Value} (h : w.ownsRow base e 1 (.slice A n c) n xs) : ∀ a, A = some a → base ≤ a.block ∧ a.block < w.heap.size := by
  intro a ha
  rcases h.2 with ⟨h, _⟩ | ⟨g, cap, cur, hv, hb, hg, _⟩
  · cases h; cases ha
  · cases hv; cases ha; exact ⟨hb, block_lt hg⟩
theorem own_rd {w : World} {base : Nat} {e : TypeId} {A : Option Addr} {c n : Nat} {xs : List Value} (h : w.ownsRow base e 1 (.slice A n c) n xs) : Rd w A xs := by
  obtain ⟨A', c', hv, _, _, hr⟩ := Rd.of_own h
  cases hv
  exact hr
/-- Stores into a block of the call's own do not turn a row that lies beyond it. -/
theorem rd_set {w : World} {A : Option Addr} {xs : List Value} (h : Rd w A xs) {B : Nat} (hA : ∀ a, A = some a → a.block ≠ B) (j : Nat) (v : Value) : Rd (w.setCell ⟨B, j, none⟩ v) A xs :=
  h.same (by simp [World.setCell]) (fun a ha _ => Below.heap_setCell _ _ _ _ (hA a ha))
theorem Rr.drew {w : World} {p : Nat} {l : List UInt8} (h : Rr w p l) : Rr w.drew p l := h
theorem g_undrew {a b : World} {r : Option Nat} (h : a.drew.grownBy b r) : a.grownBy b r := ⟨h.os, h.tape, h.output, h.size, h.block⟩
theorem lenP_le {l l' : List UInt8} {n : Nat} (h : lenP l = some (n, l')) : n ≤ 65535 := by
  unfold lenP at h
  split at h
  · cases h
    have h1 := be_lt (l.take 2)
    rw [List.length_take, Nat.min_eq_left (by assumption)] at h1
    omega
  · cases h
/-- What a step leaves that answers by a struct with a row of its own. -/
def ListRes {α : Type} (p : Nat) (enc : α → Option Addr → Nat → Array Value) (row : α → List Value) (w : World) (r : Option (α × List UInt8)) (e : Ending) (w' : World) : Prop :=
  w.grownBy w' (some p) ∧ match r with
    | none => e = Fail
    | some (x, l) => ∃ A c, e = .returned (.agg (enc x A c)) ∧ Rd w' A (row x) ∧ (∀ a, A = some a → w.heap.size ≤ a.block ∧ a.block < w'.heap.size) ∧ Rr w' p l
set_option maxHeartbeats 4000000 in
set_option maxRecDepth 100000 in
theorem rpost_any (p : Nat) (l0 : List UInt8) (w : World) (hR : Rr w p l0) :
    Calls Try.prog 60 #[.pointer (some ⟨p, 0, none⟩)] w (StepRes p (fun x => .agg (postCells x)) w (postP l0)) := by
  have hpw := hR.lt
  have hR0 : Hid (Rr ((w.alloc (.cells #[.string ⟨#[]⟩, iV 0, iV 0, iV 0, iV 0] 23)).alloc (.cells #[.string ⟨#[]⟩, iV 0, iV 0, iV 0, iV 0] 23)) p l0) := (hR.alloc _).alloc _
  have hG0 : Hid (w.grownBy ((w.alloc (.cells #[.string ⟨#[]⟩, iV 0, iV 0, iV 0, iV 0] 23)).alloc (.cells #[.string ⟨#[]⟩, iV 0, iV 0, iV 0, iV 0] 23)) (some p)) := g_alloc (g_alloc (gr w _) _) _
  have hZ0 : Hid (((w.alloc (.cells #[.string ⟨#[]⟩, iV 0, iV 0, iV 0, iV 0] 23)).alloc (.cells #[.string ⟨#[]⟩, iV 0, iV 0, iV 0, iV 0] 23)).heap[w.heap.size]? = some (.cells #[.string ⟨#[]⟩, iV 0, iV 0, iV 0, iV 0] 23 (0, 0))) := (Below.heap_alloc _ _ _ (by simp)).trans (heap_alloc_new _ _)
  have hB0 : Hid (((w.alloc (.cells #[.string ⟨#[]⟩, iV 0, iV 0, iV 0, iV 0] 23)).alloc (.cells #[.string ⟨#[]⟩, iV 0, iV 0, iV 0, iV 0] 23)).heap[w.heap.size + 1]? = some (.cells #[.string ⟨#[]⟩, iV 0, iV 0, iV 0, iV 0] 23 (0, 0))) := by
    have := heap_alloc_new (w.alloc (.cells #[.string ⟨#[]⟩, iV 0, iV 0, iV 0, iV 0] 23)) (.cells #[.string ⟨#[]⟩, iV 0, iV 0, iV 0, iV 0] 23)
    rwa [World.size_alloc] at this
  clear hR
  go_enter Try.func60, Try.ntmps60
  go_wp2_with fail
  refine (rtext_any p l0 _ hR0.out).mono ?_
  rintro e w1 ⟨hg, hh⟩
  cases hl : txtP l0 with
  | none =>
    rw [hl] at hh
    subst hh
    refine ⟨rfl, gt hG0.out hg, ?_⟩
    simp only [postP, hl, Option.bind_eq_bind, Option.bind_none]
  | some x =>
  obtain ⟨s, l1⟩ := x
  rw [hl] at hh
  obtain ⟨rfl, hR'⟩ := hh
  have hp1 := Lib.hid hl; clear hl
  have hZ' := Lib.hid ((hg.block _ (block_lt hZ0.out) (by simp; omega)).trans hZ0.out)
  have hB' := Lib.hid ((hg.block _ (block_lt hB0.out) (by simp; omega)).trans hB0.out)
  have c0 : w1.cell? ⟨w.heap.size + 1, 0, none⟩ = some (.string ⟨#[]⟩) := cell_of_row w1 _ 0 _ _ _ hB'.out
  have f0 : w1.frozen? ⟨w.heap.size + 1, 0, none⟩ = false := frozen_row hB'.out 0
  have hR1 := Lib.hid (hR'.set (B := w.heap.size + 1) (by omega) 0 (sV s))
  have hG1 := Lib.hid (g_new (gt hG0.out hg) (B := w.heap.size + 1) (by omega) 0 (sV s))
  have hZ1 := Lib.hid (row_other hZ'.out (C := w.heap.size + 1) (by omega) 0 (sV s))
  have hB1 : Hid ((w1.setCell ⟨w.heap.size + 1, 0, none⟩ (sV s)).heap[w.heap.size + 1]? = some (.cells #[sV s, iV 0, iV 0, iV 0, iV 0] 23 (0, 0))) := row_set hB'.out 0 (sV s)
  clear hg hR' hZ' hB' hR0 hG0 hZ0 hB0
  go_wp2_with fail
  clear c0 f0
  refine (rnumber_any p l1 _ hR1.out).mono ?_
  rintro e w2 ⟨hg, hh⟩
  cases hl : numP l1 with
  | none =>
    rw [hl] at hh
    subst hh
    refine ⟨rfl, gt hG1.out hg, ?_⟩
    simp only [postP, hp1.out, hl, Option.bind_eq_bind, Option.bind_some, Option.bind_none]
  | some x =>
  obtain ⟨n1, l2⟩ := x
  rw [hl] at hh
  obtain ⟨rfl, hR'⟩ := hh
  have hp2 := Lib.hid hl; clear hl
  have hZ' := Lib.hid ((hg.block _ (block_lt hZ1.out) (by simp; omega)).trans hZ1.out)
  have hB' := Lib.hid ((hg.block _ (block_lt hB1.out) (by simp; omega)).trans hB1.out)
  have c1 : w2.cell? ⟨w.heap.size + 1, 1, none⟩ = some (iV 0) := cell_of_row w2 _ 1 _ _ _ hB'.out
  have f1 : w2.frozen? ⟨w.heap.size + 1, 1, none⟩ = false := frozen_row hB'.out 1
  have hR2 := Lib.hid (hR'.set (B := w.heap.size + 1) (by omega) 1 (iV n1))
  have hG2 := Lib.hid (g_new (gt hG1.out hg) (B := w.heap.size + 1) (by omega) 1 (iV n1))
  have hZ2 := Lib.hid (row_other hZ'.out (C := w.heap.size + 1) (by omega) 1 (iV n1))
  have hB2 : Hid ((w2.setCell ⟨w.heap.size + 1, 1, none⟩ (iV n1)).heap[w.heap.size + 1]? = some (.cells #[sV s, iV n1, iV 0, iV 0, iV 0] 23 (0, 0))) := row_set hB'.out 1 (iV n1)
  clear hg hR' hZ' hB' hR1 hG1 hZ1 hB1
  go_wp2_with fail
  clear c1 f1
  refine (rnumber_any p l2 _ hR2.out).mono ?_
  rintro e w3 ⟨hg, hh⟩
  cases hl : numP l2 with
  | none =>
    rw [hl] at hh
    subst hh
    refine ⟨rfl, gt hG2.out hg, ?_⟩
    simp only [postP, hp1.out, hp2.out, hl, Option.bind_eq_bind, Option.bind_some, Option.bind_none]
  | some x =>
  obtain ⟨n2, l3⟩ := x
  rw [hl] at hh
  obtain ⟨rfl, hR'⟩ := hh
  have hp3 := Lib.hid hl; clear hl
  have hZ' := Lib.hid ((hg.block _ (block_lt hZ2.out) (by simp; omega)).trans hZ2.out)
  have hB' := Lib.hid ((hg.block _ (block_lt hB2.out) (by simp; omega)).trans hB2.out)
  have c2 : w3.cell? ⟨w.heap.size + 1, 2, none⟩ = some (iV 0) := cell_of_row w3 _ 2 _ _ _ hB'.out
  have f2 : w3.frozen? ⟨w.heap.size + 1, 2, none⟩ = false := frozen_row hB'.out 2
  have hR3 := Lib.hid (hR'.set (B := w.heap.size + 1) (by omega) 2 (iV n2))
  have hG3 := Lib.hid (g_new (gt hG2.out hg) (B := w.heap.size + 1) (by omega) 2 (iV n2))
  have hZ3 := Lib.hid (row_other hZ'.out (C := w.heap.size + 1) (by omega) 2 (iV n2))
  have hB3 : Hid ((w3.setCell ⟨w.heap.size + 1, 2, none⟩ (iV n2)).heap[w.heap.size + 1]? = some (.cells #[sV s, iV n1, iV n2, iV 0, iV 0] 23 (0, 0))) := row_set hB'.out 2 (iV n2)
  clear hg hR' hZ' hB' hR2 hG2 hZ2 hB2
  go_wp2_with fail
  clear c2 f2
  refine (rnumber_any p l3 _ hR3.out).mono ?_
  rintro e w4 ⟨hg, hh⟩
  cases hl : numP l3 with
  | none =>
    rw [hl] at hh
    subst hh
    refine ⟨rfl, gt hG3.out hg, ?_⟩
    simp only [postP, hp1.out, hp2.out, hp3.out, hl, Option.bind_eq_bind, Option.bind_some, Option.bind_none]
  | some x =>
  obtain ⟨n3, l4⟩ := x
  rw [hl] at hh
  obtain ⟨rfl, hR'⟩ := hh
  have hp4 := Lib.hid hl; clear hl
  have hZ' := Lib.hid ((hg.block _ (block_lt hZ3.out) (by simp; omega)).trans hZ3.out)
  have hB' := Lib.hid ((hg.block _ (block_lt hB3.out) (by simp; omega)).trans hB3.out)
  have c3 : w4.cell? ⟨w.heap.size + 1, 3, none⟩ = some (iV 0) := cell_of_row w4 _ 3 _ _ _ hB'.out
  have f3 : w4.frozen? ⟨w.heap.size + 1, 3, none⟩ = false := frozen_row hB'.out 3
  have hR4 := Lib.hid (hR'.set (B := w.heap.size + 1) (by omega) 3 (iV n3))
  have hG4 := Lib.hid (g_new (gt hG3.out hg) (B := w.heap.size + 1) (by omega) 3 (iV n3))
  have hZ4 := Lib.hid (row_other hZ'.out (C := w.heap.size + 1) (by omega) 3 (iV n3))
  have hB4 : Hid ((w4.setCell ⟨w.heap.size + 1, 3, none⟩ (iV n3)).heap[w.heap.size + 1]? = some (.cells #[sV s, iV n1, iV n2, iV n3, iV 0] 23 (0, 0))) := row_set hB'.out 3 (iV n3)
  clear hg hR' hZ' hB' hR3 hG3 hZ3 hB3
  go_wp2_with fail
  clear c3 f3
  refine (rnumber_any p l4 _ hR4.out).mono ?_
  rintro e w5 ⟨hg, hh⟩
  cases hl : numP l4 with
  | none =>
    rw [hl] at hh
    subst hh
    refine ⟨rfl, gt hG4.out hg, ?_⟩
    simp only [postP, hp1.out, hp2.out, hp3.out, hp4.out, hl, Option.bind_eq_bind, Option.bind_some, Option.bind_none]
  | some x =>
  obtain ⟨n4, l5⟩ := x
  rw [hl] at hh
  obtain ⟨rfl, hR'⟩ := hh
  have hp5 := Lib.hid hl; clear hl
  have hZ' := Lib.hid ((hg.block _ (block_lt hZ4.out) (by simp; omega)).trans hZ4.out)
  have hB' := Lib.hid ((hg.block _ (block_lt hB4.out) (by simp; omega)).trans hB4.out)
  have c4 : w5.cell? ⟨w.heap.size + 1, 4, none⟩ = some (iV 0) := cell_of_row w5 _ 4 _ _ _ hB'.out
  have f4 : w5.frozen? ⟨w.heap.size + 1, 4, none⟩ = false := frozen_row hB'.out 4
  have hR5 := Lib.hid (hR'.set (B := w.heap.size + 1) (by omega) 4 (iV n4))
  have hG5 := Lib.hid (g_new (gt hG4.out hg) (B := w.heap.size + 1) (by omega) 4 (iV n4))
  have hZ5 := Lib.hid (row_other hZ'.out (C := w.heap.size + 1) (by omega) 4 (iV n4))
  have c0 : w5.cell? ⟨w.heap.size + 1, 0, none⟩ = some (sV s) := cell_of_row w5 _ 0 _ _ _ hB'.out
  have z0 : w5.cell? ⟨w.heap.size, 0, none⟩ = some (.string ⟨#[]⟩) := cell_of_row w5 _ 0 _ _ _ hZ'.out
  have y0 : w5.frozen? ⟨w.heap.size, 0, none⟩ = false := frozen_row hZ'.out 0
  have c1 : w5.cell? ⟨w.heap.size + 1, 1, none⟩ = some (iV n1) := cell_of_row w5 _ 1 _ _ _ hB'.out
  have z1 : w5.cell? ⟨w.heap.size, 1, none⟩ = some (iV 0) := cell_of_row w5 _ 1 _ _ _ hZ'.out
  have y1 : w5.frozen? ⟨w.heap.size, 1, none⟩ = false := frozen_row hZ'.out 1
  have c2 : w5.cell? ⟨w.heap.size + 1, 2, none⟩ = some (iV n2) := cell_of_row w5 _ 2 _ _ _ hB'.out
  have z2 : w5.cell? ⟨w.heap.size, 2, none⟩ = some (iV 0) := cell_of_row w5 _ 2 _ _ _ hZ'.out
  have y2 : w5.frozen? ⟨w.heap.size, 2, none⟩ = false := frozen_row hZ'.out 2
  have c3 : w5.cell? ⟨w.heap.size + 1, 3, none⟩ = some (iV n3) := cell_of_row w5 _ 3 _ _ _ hB'.out
  have z3 : w5.cell? ⟨w.heap.size, 3, none⟩ = some (iV 0) := cell_of_row w5 _ 3 _ _ _ hZ'.out
  have y3 : w5.frozen? ⟨w.heap.size, 3, none⟩ = false := frozen_row hZ'.out 3
  have z4 : w5.cell? ⟨w.heap.size, 4, none⟩ = some (iV 0) := cell_of_row w5 _ 4 _ _ _ hZ'.out
  have y4 : w5.frozen? ⟨w.heap.size, 4, none⟩ = false := frozen_row hZ'.out 4
  have hB5 : Hid ((w5.setCell ⟨w.heap.size + 1, 4, none⟩ (iV n4)).heap[w.heap.size + 1]? = some (.cells #[sV s, iV n1, iV n2, iV n3, iV n4] 23 (0, 0))) := row_set hB'.out 4 (iV n4)
  clear hg hR' hZ' hB' hR4 hG4 hZ4 hB4
  go_wp2
  refine bodyPost_ret (v := .agg #[sV s, iV n1, iV n2, iV n3, iV n4]) (by simp [results, Try.results60, go_sem, z0, z1, z2, z3, z4]) rfl ?_
  refine ⟨(g_new (g_new (g_new (g_new (g_new hG5.out (B := w.heap.size) (Nat.le_refl _) 0 (sV s)) (B := w.heap.size) (Nat.le_refl _) 1 (iV n1)) (B := w.heap.size) (Nat.le_refl _) 2 (iV n2)) (B := w.heap.size) (Nat.le_refl _) 3 (iV n3)) (B := w.heap.size) (Nat.le_refl _) 4 (iV n4)), ?_⟩
  simp only [postP, hp1.out, hp2.out, hp3.out, hp4.out, hp5.out, Option.bind_eq_bind, Option.bind_some]
  exact ⟨rfl, (((((hR5.out.set (B := w.heap.size) hpw 0 (sV s)).set (B := w.heap.size) hpw 1 (iV n1)).set (B := w.heap.size) hpw 2 (iV n2)).set (B := w.heap.size) hpw 3 (iV n3)).set (B := w.heap.size) hpw 4 (iV n4))⟩
set_option maxHeartbeats 4000000 in
set_option maxRecDepth 100000 in
theorem rrecord_any (p : Nat) (l0 : List UInt8) (w : World) (hR : Rr w p l0) :
    Calls Try.prog 61 #[.pointer (some ⟨p, 0, none⟩)] w (ListRes p recCells (fun x => x.contents.map sV) w (recP l0)) := by
  have hpw := hR.lt
  have hR0 : Hid (Rr ((w.alloc (.cells #[iV 0, iV 0, iV 0, iV 0, .string ⟨#[]⟩, .slice none 0 0] 26)).alloc (.cells #[iV 0, iV 0, iV 0, iV 0, .string ⟨#[]⟩, .slice none 0 0] 26)) p l0) := (hR.alloc _).alloc _
  have hG0 : Hid (w.grownBy ((w.alloc (.cells #[iV 0, iV 0, iV 0, iV 0, .string ⟨#[]⟩, .slice none 0 0] 26)).alloc (.cells #[iV 0, iV 0, iV 0, iV 0, .string ⟨#[]⟩, .slice none 0 0] 26)) (some p)) := g_alloc (g_alloc (gr w _) _) _
  have hZ0 : Hid (((w.alloc (.cells #[iV 0, iV 0, iV 0, iV 0, .string ⟨#[]⟩, .slice none 0 0] 26)).alloc (.cells #[iV 0, iV 0, iV 0, iV 0, .string ⟨#[]⟩, .slice none 0 0] 26)).heap[w.heap.size]? = some (.cells #[iV 0, iV 0, iV 0, iV 0, .string ⟨#[]⟩, .slice none 0 0] 26 (0, 0))) := (Below.heap_alloc _ _ _ (by simp)).trans (heap_alloc_new _ _)
  have hB0 : Hid (((w.alloc (.cells #[iV 0, iV 0, iV 0, iV 0, .string ⟨#[]⟩, .slice none 0 0] 26)).alloc (.cells #[iV 0, iV 0, iV 0, iV 0, .string ⟨#[]⟩, .slice none 0 0] 26)).heap[w.heap.size + 1]? = some (.cells #[iV 0, iV 0, iV 0, iV 0, .string ⟨#[]⟩, .slice none 0 0] 26 (0, 0))) := by
    have := heap_alloc_new (w.alloc (.cells #[iV 0, iV 0, iV 0, iV 0, .string ⟨#[]⟩, .slice none 0 0] 26)) (.cells #[iV 0, iV 0, iV 0, iV 0, .string ⟨#[]⟩, .slice none 0 0] 26)
    rwa [World.size_alloc] at this
  clear hR
  go_enter Try.func61, Try.ntmps61
  go_wp2_with fail
  refine (rnumber_any p l0 _ hR0.out).mono ?_
  rintro e w1 ⟨hg, hh⟩
  cases hl : numP l0 with
  | none =>
    rw [hl] at hh
    subst hh
    refine ⟨rfl, gt hG0.out hg, ?_⟩
    simp only [recP, hl, Option.bind_eq_bind, Option.bind_none]
  | some x =>
  obtain ⟨n1, l1⟩ := x
  rw [hl] at hh
  obtain ⟨rfl, hR'⟩ := hh
  have hp1 := Lib.hid hl; clear hl
  have hZ' := Lib.hid ((hg.block _ (block_lt hZ0.out) (by simp; omega)).trans hZ0.out)
  have hB' := Lib.hid ((hg.block _ (block_lt hB0.out) (by simp; omega)).trans hB0.out)
  have c0 : w1.cell? ⟨w.heap.size + 1, 0, none⟩ = some (iV 0) := cell_of_row w1 _ 0 _ _ _ hB'.out
  have f0 : w1.frozen? ⟨w.heap.size + 1, 0, none⟩ = false := frozen_row hB'.out 0
  have hR1 := Lib.hid (hR'.set (B := w.heap.size + 1) (by omega) 0 (iV n1))
  have hG1 := Lib.hid (g_new (gt hG0.out hg) (B := w.heap.size + 1) (by omega) 0 (iV n1))
  have hZ1 := Lib.hid (row_other hZ'.out (C := w.heap.size + 1) (by omega) 0 (iV n1))
  have hB1 : Hid ((w1.setCell ⟨w.heap.size + 1, 0, none⟩ (iV n1)).heap[w.heap.size + 1]? = some (.cells #[iV n1, iV 0, iV 0, iV 0, .string ⟨#[]⟩, .slice none 0 0] 26 (0, 0))) := row_set hB'.out 0 (iV n1)
  clear hg hR' hZ' hB' hR0 hG0 hZ0 hB0
  go_wp2_with fail
  clear c0 f0
  refine (rnumber_any p l1 _ hR1.out).mono ?_
  rintro e w2 ⟨hg, hh⟩
  cases hl : numP l1 with
  | none =>
    rw [hl] at hh
    subst hh
    refine ⟨rfl, gt hG1.out hg, ?_⟩
    simp only [recP, hp1.out, hl, Option.bind_eq_bind, Option.bind_some, Option.bind_none]
  | some x =>
  obtain ⟨n2, l2⟩ := x
  rw [hl] at hh
  obtain ⟨rfl, hR'⟩ := hh
  have hp2 := Lib.hid hl; clear hl
  have hZ' := Lib.hid ((hg.block _ (block_lt hZ1.out) (by simp; omega)).trans hZ1.out)
  have hB' := Lib.hid ((hg.block _ (block_lt hB1.out) (by simp; omega)).trans hB1.out)
  have c1 : w2.cell? ⟨w.heap.size + 1, 1, none⟩ = some (iV 0) := cell_of_row w2 _ 1 _ _ _ hB'.out
  have f1 : w2.frozen? ⟨w.heap.size + 1, 1, none⟩ = false := frozen_row hB'.out 1
  have hR2 := Lib.hid (hR'.set (B := w.heap.size + 1) (by omega) 1 (iV n2))
  have hG2 := Lib.hid (g_new (gt hG1.out hg) (B := w.heap.size + 1) (by omega) 1 (iV n2))
  have hZ2 := Lib.hid (row_other hZ'.out (C := w.heap.size + 1) (by omega) 1 (iV n2))
  have hB2 : Hid ((w2.setCell ⟨w.heap.size + 1, 1, none⟩ (iV n2)).heap[w.heap.size + 1]? = some (.cells #[iV n1, iV n2, iV 0, iV 0, .string ⟨#[]⟩, .slice none 0 0] 26 (0, 0))) := row_set hB'.out 1 (iV n2)
  clear hg hR' hZ' hB' hR1 hG1 hZ1 hB1
  go_wp2_with fail
  clear c1 f1
  refine (rnumber_any p l2 _ hR2.out).mono ?_
  rintro e w3 ⟨hg, hh⟩
  cases hl : numP l2 with
  | none =>
    rw [hl] at hh
    subst hh
    refine ⟨rfl, gt hG2.out hg, ?_⟩
    simp only [recP, hp1.out, hp2.out, hl, Option.bind_eq_bind, Option.bind_some, Option.bind_none]
  | some x =>
  obtain ⟨n3, l3⟩ := x
  rw [hl] at hh
  obtain ⟨rfl, hR'⟩ := hh
  have hp3 := Lib.hid hl; clear hl
  have hZ' := Lib.hid ((hg.block _ (block_lt hZ2.out) (by simp; omega)).trans hZ2.out)
  have hB' := Lib.hid ((hg.block _ (block_lt hB2.out) (by simp; omega)).trans hB2.out)
  have c2 : w3.cell? ⟨w.heap.size + 1, 2, none⟩ = some (iV 0) := cell_of_row w3 _ 2 _ _ _ hB'.out
  have f2 : w3.frozen? ⟨w.heap.size + 1, 2, none⟩ = false := frozen_row hB'.out 2
  have hR3 := Lib.hid (hR'.set (B := w.heap.size + 1) (by omega) 2 (iV n3))
  have hG3 := Lib.hid (g_new (gt hG2.out hg) (B := w.heap.size + 1) (by omega) 2 (iV n3))
  have hZ3 := Lib.hid (row_other hZ'.out (C := w.heap.size + 1) (by omega) 2 (iV n3))
  have hB3 : Hid ((w3.setCell ⟨w.heap.size + 1, 2, none⟩ (iV n3)).heap[w.heap.size + 1]? = some (.cells #[iV n1, iV n2, iV n3, iV 0, .string ⟨#[]⟩, .slice none 0 0] 26 (0, 0))) := row_set hB'.out 2 (iV n3)
  clear hg hR' hZ' hB' hR2 hG2 hZ2 hB2
  go_wp2_with fail
  clear c2 f2
  refine (rnumber_any p l3 _ hR3.out).mono ?_
  rintro e w4 ⟨hg, hh⟩
  cases hl : numP l3 with
  | none =>
    rw [hl] at hh
    subst hh
    refine ⟨rfl, gt hG3.out hg, ?_⟩
    simp only [recP, hp1.out, hp2.out, hp3.out, hl, Option.bind_eq_bind, Option.bind_some, Option.bind_none]
  | some x =>
  obtain ⟨n4, l4⟩ := x
  rw [hl] at hh
  obtain ⟨rfl, hR'⟩ := hh
  have hp4 := Lib.hid hl; clear hl
  have hZ' := Lib.hid ((hg.block _ (block_lt hZ3.out) (by simp; omega)).trans hZ3.out)
  have hB' := Lib.hid ((hg.block _ (block_lt hB3.out) (by simp; omega)).trans hB3.out)
  have c3 : w4.cell? ⟨w.heap.size + 1, 3, none⟩ = some (iV 0) := cell_of_row w4 _ 3 _ _ _ hB'.out
  have f3 : w4.frozen? ⟨w.heap.size + 1, 3, none⟩ = false := frozen_row hB'.out 3
  have hR4 := Lib.hid (hR'.set (B := w.heap.size + 1) (by omega) 3 (iV n4))
  have hG4 := Lib.hid (g_new (gt hG3.out hg) (B := w.heap.size + 1) (by omega) 3 (iV n4))
  have hZ4 := Lib.hid (row_other hZ'.out (C := w.heap.size + 1) (by omega) 3 (iV n4))
  have hB4 : Hid ((w4.setCell ⟨w.heap.size + 1, 3, none⟩ (iV n4)).heap[w.heap.size + 1]? = some (.cells #[iV n1, iV n2, iV n3, iV n4, .string ⟨#[]⟩, .slice none 0 0] 26 (0, 0))) := row_set hB'.out 3 (iV n4)
  clear hg hR' hZ' hB' hR3 hG3 hZ3 hB3
  go_wp2_with fail
  clear c3 f3
  refine (rtext_any p l4 _ hR4.out).mono ?_
  rintro e w5 ⟨hg, hh⟩
  cases hl : txtP l4 with
  | none =>
    rw [hl] at hh
    subst hh
    refine ⟨rfl, gt hG4.out hg, ?_⟩
    simp only [recP, hp1.out, hp2.out, hp3.out, hp4.out, hl, Option.bind_eq_bind, Option.bind_some, Option.bind_none]
  | some x =>
  obtain ⟨s, l5⟩ := x
  rw [hl] at hh
  obtain ⟨rfl, hR'⟩ := hh
  have hp5 := Lib.hid hl; clear hl
  have hZ' := Lib.hid ((hg.block _ (block_lt hZ4.out) (by simp; omega)).trans hZ4.out)
  have hB' := Lib.hid ((hg.block _ (block_lt hB4.out) (by simp; omega)).trans hB4.out)
  have c4 : w5.cell? ⟨w.heap.size + 1, 4, none⟩ = some (.string ⟨#[]⟩) := cell_of_row w5 _ 4 _ _ _ hB'.out
  have f4 : w5.frozen? ⟨w.heap.size + 1, 4, none⟩ = false := frozen_row hB'.out 4
  have hR5 := Lib.hid (hR'.set (B := w.heap.size + 1) (by omega) 4 (sV s))
  have hG5 := Lib.hid (g_new (gt hG4.out hg) (B := w.heap.size + 1) (by omega) 4 (sV s))
  have hZ5 := Lib.hid (row_other hZ'.out (C := w.heap.size + 1) (by omega) 4 (sV s))
  have hB5 : Hid ((w5.setCell ⟨w.heap.size + 1, 4, none⟩ (sV s)).heap[w.heap.size + 1]? = some (.cells #[iV n1, iV n2, iV n3, iV n4, sV s, .slice none 0 0] 26 (0, 0))) := row_set hB'.out 4 (sV s)
  clear hg hR' hZ' hB' hR4 hG4 hZ4 hB4
  go_wp2_with fail
  clear c4 f4
  refine (rlength_any p l5 _ hR5.out).mono ?_
  rintro e w6 ⟨hg, hh⟩
  cases hl : lenP l5 with
  | none =>
    rw [hl] at hh
    subst hh
    refine ⟨rfl, gt hG5.out hg, ?_⟩
    simp only [recP, hp1.out, hp2.out, hp3.out, hp4.out, hp5.out, hl, Option.bind_eq_bind, Option.bind_some, Option.bind_none]
  | some x =>
  obtain ⟨n, l6⟩ := x
  rw [hl] at hh
  obtain ⟨rfl, hR'⟩ := hh
  have hn65 := lenP_le hl
  have hp6 := Lib.hid hl; clear hl
  have hZ' := Lib.hid ((hg.block _ (block_lt hZ5.out) (by simp; omega)).trans hZ5.out)
  have hB' := Lib.hid ((hg.block _ (block_lt hB5.out) (by simp; omega)).trans hB5.out)
  have hG' := Lib.hid (gt hG5.out hg)
  have hR'' := Lib.hid hR'
  have hw2 : Hid (w.heap.size + 2 ≤ w6.heap.size) := by have := block_lt hB'.out; show _ ≤ _; omega
  clear hg hR' hR5 hG5 hZ5 hB5
  go_wp2
  go_loopg [21] n (fun g ix wr => ∃ (ss : List (List UInt8)) (l' : List UInt8) (v : Value), ss.length + g = n ∧ ix = iV ss.length ∧ w.grownBy wr (some p) ∧ Rr wr p l' ∧ wr.heap[w.heap.size]? = some (.cells #[iV 0, iV 0, iV 0, iV 0, .string ⟨#[]⟩, .slice none 0 0] 26 (0, 0)) ∧ wr.heap[w.heap.size + 1]? = some (.cells #[iV n1, iV n2, iV n3, iV n4, sV s, v] 26 (0, 0)) ∧ wr.ownsRow (w.heap.size + 2) 9 1 v ss.length (ss.map sV) ∧ w.heap.size + 2 ≤ wr.heap.size ∧ Hid (txtsP n l6 = (txtsP g l').map fun x => (ss ++ x.1, x.2)))
  case atStart =>
    refine ⟨[], l6, .slice none 0 0, by simp, rfl, hG'.out, hR''.out, hZ'.out, hB'.out, World.ownsRow_nil _ _ _ _, hw2.out, ?_⟩
    show _ = _
    cases txtsP n l6 <;> rfl
  case round =>
    obtain ⟨ss, l', v, hk, rfl, h1, h2, h3, h4, h5, h6, HF⟩ := hrel
    have H1 := Lib.hid h1; clear h1
    have H2 := Lib.hid h2; clear h2
    have H3 := Lib.hid h3; clear h3
    have H4 := Lib.hid h4; clear h4
    have H5 := Lib.hid h5; clear h5
    obtain ⟨A, c, rfl⟩ := own_form H5.out
    cases gk with
    | zero =>
      have hlt : ¬ (ss.length : Int) < (n : Int) := by omega
      have c0 : wr.cell? ⟨w.heap.size + 1, 0, none⟩ = some (iV n1) := cell_of_row wr _ 0 _ _ _ H4.out
      have z0 : wr.cell? ⟨w.heap.size, 0, none⟩ = some (iV 0) := cell_of_row wr _ 0 _ _ _ H3.out
      have y0 : wr.frozen? ⟨w.heap.size, 0, none⟩ = false := frozen_row H3.out 0
      have c1 : wr.cell? ⟨w.heap.size + 1, 1, none⟩ = some (iV n2) := cell_of_row wr _ 1 _ _ _ H4.out
      have z1 : wr.cell? ⟨w.heap.size, 1, none⟩ = some (iV 0) := cell_of_row wr _ 1 _ _ _ H3.out
      have y1 : wr.frozen? ⟨w.heap.size, 1, none⟩ = false := frozen_row H3.out 1
      have c2 : wr.cell? ⟨w.heap.size + 1, 2, none⟩ = some (iV n3) := cell_of_row wr _ 2 _ _ _ H4.out
      have z2 : wr.cell? ⟨w.heap.size, 2, none⟩ = some (iV 0) := cell_of_row wr _ 2 _ _ _ H3.out
      have y2 : wr.frozen? ⟨w.heap.size, 2, none⟩ = false := frozen_row H3.out 2
      have c3 : wr.cell? ⟨w.heap.size + 1, 3, none⟩ = some (iV n4) := cell_of_row wr _ 3 _ _ _ H4.out
      have z3 : wr.cell? ⟨w.heap.size, 3, none⟩ = some (iV 0) := cell_of_row wr _ 3 _ _ _ H3.out
      have y3 : wr.frozen? ⟨w.heap.size, 3, none⟩ = false := frozen_row H3.out 3
      have c4 : wr.cell? ⟨w.heap.size + 1, 4, none⟩ = some (sV s) := cell_of_row wr _ 4 _ _ _ H4.out
      have z4 : wr.cell? ⟨w.heap.size, 4, none⟩ = some (.string ⟨#[]⟩) := cell_of_row wr _ 4 _ _ _ H3.out
      have y4 : wr.frozen? ⟨w.heap.size, 4, none⟩ = false := frozen_row H3.out 4
      have c5 : wr.cell? ⟨w.heap.size + 1, 5, none⟩ = some (.slice A ss.length c) := cell_of_row wr _ 5 _ _ _ H4.out
      have z5 : wr.cell? ⟨w.heap.size, 5, none⟩ = some (.slice none 0 0) := cell_of_row wr _ 5 _ _ _ H3.out
      have y5 : wr.frozen? ⟨w.heap.size, 5, none⟩ = false := frozen_row H3.out 5
      have HNE : Hid (∀ a, A = some a → a.block ≠ w.heap.size) := fun a ha => by have := own_at H5.out a ha; omega
      go_wp2
      refine bodyPost_ret (v := .agg #[iV n1, iV n2, iV n3, iV n4, sV s, .slice A ss.length c]) (by simp [results, Try.results61, go_sem, z0, z1, z2, z3, z4, z5]) rfl ?_
      refine ⟨(g_new (g_new (g_new (g_new (g_new (g_new H1.out (B := w.heap.size) (Nat.le_refl _) 0 (iV n1)) (B := w.heap.size) (Nat.le_refl _) 1 (iV n2)) (B := w.heap.size) (Nat.le_refl _) 2 (iV n3)) (B := w.heap.size) (Nat.le_refl _) 3 (iV n4)) (B := w.heap.size) (Nat.le_refl _) 4 (sV s)) (B := w.heap.size) (Nat.le_refl _) 5 (.slice A ss.length c)), ?_⟩
      have hf := HF.out
      simp only [txtsP, Option.map_some, List.append_nil] at hf
      simp only [recP, hp1.out, hp2.out, hp3.out, hp4.out, hp5.out, hp6.out, hf, Option.bind_eq_bind, Option.bind_some]
      refine ⟨A, c, rfl, (rd_set (rd_set (rd_set (rd_set (rd_set (rd_set (own_rd H5.out) (B := w.heap.size) HNE.out 0 (iV n1)) (B := w.heap.size) HNE.out 1 (iV n2)) (B := w.heap.size) HNE.out 2 (iV n3)) (B := w.heap.size) HNE.out 3 (iV n4)) (B := w.heap.size) HNE.out 4 (sV s)) (B := w.heap.size) HNE.out 5 (.slice A ss.length c)), fun a ha => by have := own_at H5.out a ha; simp [World.setCell]; omega, ((((((H2.out.set (B := w.heap.size) hpw 0 (iV n1)).set (B := w.heap.size) hpw 1 (iV n2)).set (B := w.heap.size) hpw 2 (iV n3)).set (B := w.heap.size) hpw 3 (iV n4)).set (B := w.heap.size) hpw 4 (sV s)).set (B := w.heap.size) hpw 5 (.slice A ss.length c))⟩
    | succ g1 =>
      have hlt : (ss.length : Int) < (n : Int) := by omega
      have c5 : wr.cell? ⟨w.heap.size + 1, 5, none⟩ = some (.slice A ss.length c) := cell_of_row wr _ 5 _ _ _ H4.out
      have f5 : wr.frozen? ⟨w.heap.size + 1, 5, none⟩ = false := frozen_row H4.out 5
      have hB3 : Hid (w.heap.size + 1 < wr.heap.size) := block_lt H4.out
      cases hl : txtP l' with
      | none =>
        have HL := Lib.hid hl; clear hl
        have HN : Hid (recP l0 = none) := by
          have hf := HF.out
          simp only [txtsP, HL.out, Option.map_none] at hf
          show _ = _
          simp only [recP, hp1.out, hp2.out, hp3.out, hp4.out, hp5.out, hp6.out, hf, Option.bind_eq_bind, Option.bind_some, Option.bind_none]
        go_wp2
        have hq : ∀ (W : World), W = wr.drew → Calls Try.prog 59 #[.pointer (some ⟨p, 0, none⟩)] W fun e w7 => e = Fail ∧ wr.grownBy w7 (some p) := by
          rintro W rfl
          refine (rtext_any p l' _ (Rr.drew H2.out)).mono ?_
          rintro e w7 ⟨hg7, hh⟩
          rw [HL.out] at hh
          exact ⟨hh, g_undrew hg7⟩
        have HQ := Lib.hid hq; clear hq
        refine wp_region_any (by kernel_rfl) ?_
        change wpAny _ _ _ _ _ _ _ (World.drew _)
        refine wpAny_take (i := 0) (v := ?_) rfl (by kernel_rfl) (by kernel_rfl) (by kernel_rfl) (fun _ _ _ h => h) (Or.inl ⟨by rfl, ?_⟩) ?_
        rotate_left
        · intro w; go_simp; rfl
        refine wpAny_take (i := 2) (v := ?_) rfl (by kernel_rfl) (by kernel_rfl) (by kernel_rfl) (fun _ _ _ h => h) (Or.inl ⟨by rfl, ?_⟩) ?_
        rotate_left
        · intro w; go_simp; rfl
        have fin : ∀ (a : Act) (w7 : World), a.defers = [] → wr.grownBy w7 (some p) → (bodyPost Try.prog Try.f61 (ListRes p recCells (fun x => x.contents.map sV) w (recP l0))) (Exit.panic [{ v := .iface 64 (.agg #[]), recovered := false }]) a w7 := fun a w7 hd hg => ⟨hd, gt H1.out hg, by rw [HN.out]⟩
        have FIN := Lib.hid fin; clear fin
        refine wpAny_ready (rs := [1, 3]) (by kernel_rfl) (by simp) ?_
        refine AllReady.cons rfl (fun K hK => ?_) ?_
        · go_simp
          refine hK _ _ ?_
          clear hK K
          refine wpAny_ready (rs := [3]) (by kernel_rfl) (by simp) ?_
          refine AllReady.cons rfl (fun K hK => ?_) AllReady.nil
          go_simp
          refine (HQ.out _ rfl).mono ?_
          rintro e w7 ⟨rfl, hg7⟩
          exact FIN.out _ w7 rfl hg7
        · refine AllReady.cons rfl (fun K hK => ?_) AllReady.nil
          go_simp
          refine (HQ.out _ rfl).mono ?_
          rintro e w7 ⟨rfl, hg7⟩
          exact FIN.out _ w7 rfl hg7
      | some x =>
        obtain ⟨s7, l7⟩ := x
        have HL := Lib.hid hl; clear hl
        obtain ⟨i0, hi0, hz0, hz1, hz2⟩ := info_parts strInfo
        go_wp2
        go_region_law (first
            | (go_simp; go_at_call 59; refine (rtext_any p l' _ (Rr.drew H2.out)).mono ?_; rintro e w7 ⟨hg7, hh⟩; rw [HL.out] at hh; obtain ⟨rfl, hR7⟩ := hh; have HG7 : Hid (wr.grownBy w7 (some p)) := g_undrew hg7; clear hg7; have HR7 := Lib.hid hR7; clear hR7; have hlt7 : w.heap.size + 1 < w7.heap.size := Nat.lt_of_lt_of_le hB3.out HG7.out.size; have a7 : ∀ o, (w7.alloc o).cell? ⟨w.heap.size + 1, 5, none⟩ = w7.cell? ⟨w.heap.size + 1, 5, none⟩ := fun o => World.cell?_alloc_past _ _ _ hlt7; have c7 : w7.cell? ⟨w.heap.size + 1, 5, none⟩ = some (.slice A ss.length c) := (World.cell?_of_block (a := ⟨w.heap.size + 1, 5, none⟩) (HG7.out.block _ hB3.out (by simp; omega))).trans c5; have f7 : w7.frozen? ⟨w.heap.size + 1, 5, none⟩ = false := (World.frozen?_of_block (a := ⟨w.heap.size + 1, 5, none⟩) (HG7.out.block _ hB3.out (by simp; omega))).trans f5)
            | (refine step_app (by rfl) _ _ _ _ (by rfl) (w.heap.size + 2) 9 i0 _ 1 16 Try.underlying24 hi0 hz0 hz1 hz2 (by rfl) _ ss.length _ (by rfl) ((own_g H5.out HG7.out (by omega)).alloc _) _ (by rfl) 1 [sV s7] (src_rd Try.underlying24 (Rd.new w7 [sV s7] _) rfl (by simp [Value.oneCell'])) (by unfold maxLen; omega) (by omega) (by have := HG7.out.size; simp; omega) ?_; intro A8 c8 w8 hown8 hgrow8 hat8; have HB8 : Hid (w8.heap[w.heap.size + 1]? = w7.heap[w.heap.size + 1]?) := block_app (own_g H5.out HG7.out (by omega)) hgrow8 (by omega) (Nat.lt_of_lt_of_le hB3.out HG7.out.size); have c9 : w8.cell? ⟨w.heap.size + 1, 5, none⟩ = some (.slice A ss.length c) := (World.cell?_of_block (a := ⟨w.heap.size + 1, 5, none⟩) HB8.out).trans c7; have f9 : w8.frozen? ⟨w.heap.size + 1, 5, none⟩ = false := (World.frozen?_of_block (a := ⟨w.heap.size + 1, 5, none⟩) HB8.out).trans f7; have HG8 := Lib.hid hgrow8; clear hgrow8; have HO8 := Lib.hid hown8; clear hown8; clear hat8))
        all_goals
          clear c5 f5 c7 f7
          go_wp2
          go_roundg g1
          case measure => omega
          case rel =>
            have hown7 := (own_g H5.out HG7.out (by omega)).alloc (Obj.cells #[sV s7] 9)
            have hsz7 := HG7.out.size
            refine ⟨ss ++ [s7], l7, .slice A8 (ss.length + 1) c8, by simp; omega, by simp, g_new (g_own (g_alloc (gt H1.out HG7.out) _) hown7 HG8.out (by omega)) (by omega) _ _, ((HR7.out.alloc _).own hown7 HG8.out (by omega)).set (by omega) _ _, ?_, ?_, ?_, ?_, ?_⟩
            · exact row_other ((block_app (own_g H5.out HG7.out (by omega)) HG8.out (by omega) (by omega)).trans ((HG7.out.block _ (by omega) (by simp; omega)).trans H3.out)) (by omega) _ _
            · exact row_set (HB8.out.trans ((HG7.out.block _ hB3.out (by simp; omega)).trans H4.out)) _ _
            · have := own_set HO8.out (B := w.heap.size + 1) (by omega) 5 (.slice A8 (ss.length + 1) c8)
              simpa using this
            · have := HG8.out.size
              simp [World.setCell] at this ⊢
              omega
            · show _ = _
              rw [HF.out]
              simp only [txtsP, HL.out]
              cases txtsP g1 l7 <;> simp
end Go.Proofs.Ytoaembpakmpolaa
