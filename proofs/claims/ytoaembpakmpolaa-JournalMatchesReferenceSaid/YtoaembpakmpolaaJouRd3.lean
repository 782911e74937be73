/-
  The walks over the reader of package journal: papers. (Written by a program: wip/jou/gen_rd.py.)
-/
import Derived.Test.YtoaembpakmpolaaJouRd2
namespace Go.Proofs.Ytoaembpakmpolaa
open Go.RowKit Jou
attribute [local go_sem] ba_get ba_extract ba_append

set_option maxHeartbeats 4000000 in
set_option maxRecDepth 100000 in
theorem rpaper_any (p : Nat) (l0 : List UInt8) (w : World) (hR : Rr w p l0) :
    Calls Try.prog 62 #[.pointer (some ⟨p, 0, none⟩)] w (ListRes p paperCells (fun x => x.path.map iV) w (paperP l0)) := by
  have hpw := hR.lt
  have hR0 : Hid (Rr ((w.alloc (.cells #[.string ⟨#[]⟩, iV 0, iV 0, iV 0, iV 0, iV 0, iV 0, iV 0, .string ⟨#[]⟩, iV 0, .slice none 0 0] 33)).alloc (.cells #[.string ⟨#[]⟩, iV 0, iV 0, iV 0, iV 0, iV 0, iV 0, iV 0, .string ⟨#[]⟩, iV 0, .slice none 0 0] 33)) p l0) := (hR.alloc _).alloc _
  have hG0 : Hid (w.grownBy ((w.alloc (.cells #[.string ⟨#[]⟩, iV 0, iV 0, iV 0, iV 0, iV 0, iV 0, iV 0, .string ⟨#[]⟩, iV 0, .slice none 0 0] 33)).alloc (.cells #[.string ⟨#[]⟩, iV 0, iV 0, iV 0, iV 0, iV 0, iV 0, iV 0, .string ⟨#[]⟩, iV 0, .slice none 0 0] 33)) (some p)) := g_alloc (g_alloc (gr w _) _) _
  have hZ0 : Hid (((w.alloc (.cells #[.string ⟨#[]⟩, iV 0, iV 0, iV 0, iV 0, iV 0, iV 0, iV 0, .string ⟨#[]⟩, iV 0, .slice none 0 0] 33)).alloc (.cells #[.string ⟨#[]⟩, iV 0, iV 0, iV 0, iV 0, iV 0, iV 0, iV 0, .string ⟨#[]⟩, iV 0, .slice none 0 0] 33)).heap[w.heap.size]? = some (.cells #[.string ⟨#[]⟩, iV 0, iV 0, iV 0, iV 0, iV 0, iV 0, iV 0, .string ⟨#[]⟩, iV 0, .slice none 0 0] 33 (0, 0))) := (Below.heap_alloc _ _ _ (by simp)).trans (heap_alloc_new _ _)
  have hB0 : Hid (((w.alloc (.cells #[.string ⟨#[]⟩, iV 0, iV 0, iV 0, iV 0, iV 0, iV 0, iV 0, .string ⟨#[]⟩, iV 0, .slice none 0 0] 33)).alloc (.cells #[.string ⟨#[]⟩, iV 0, iV 0, iV 0, iV 0, iV 0, iV 0, iV 0, .string ⟨#[]⟩, iV 0, .slice none 0 0] 33)).heap[w.heap.size + 1]? = some (.cells #[.string ⟨#[]⟩, iV 0, iV 0, iV 0, iV 0, iV 0, iV 0, iV 0, .string ⟨#[]⟩, iV 0, .slice none 0 0] 33 (0, 0))) := by
    have := heap_alloc_new (w.alloc (.cells #[.string ⟨#[]⟩, iV 0, iV 0, iV 0, iV 0, iV 0, iV 0, iV 0, .string ⟨#[]⟩, iV 0, .slice none 0 0] 33)) (.cells #[.string ⟨#[]⟩, iV 0, iV 0, iV 0, iV 0, iV 0, iV 0, iV 0, .string ⟨#[]⟩, iV 0, .slice none 0 0] 33)
    rwa [World.size_alloc] at this
  clear hR
  go_enter Try.func62, Try.ntmps62
  go_wp2_with fail
  refine (rtext_any p l0 _ hR0.out).mono ?_
  rintro e w1 ⟨hg, hh⟩
  cases hl : txtP l0 with
  | none =>
    rw [hl] at hh
    subst hh
    refine ⟨rfl, gt hG0.out hg, ?_⟩
    simp only [paperP, hl, Option.bind_eq_bind, Option.bind_none]
  | some x =>
  obtain ⟨s, l1⟩ := x
  rw [hl] at hh
  obtain ⟨rfl, hR'⟩ := hh
  have hp1 := Lib.hid hl; clear hl
  have hZ' := Lib.hid ((hg.block _ (block_lt hZ0.out) (by simp; omega)).trans hZ0.out)
  have hB' := Lib.hid ((hg.block _ (block_lt hB0.out) (by simp; omega)).trans hB0.out)
  have c0 : w1.cell? ⟨w.heap.size + 1, 0, none⟩ = some (.string ⟨#[]⟩) := cell_of_row w1 _ 0 _ _ _ hB'.out
  have f0 : w1.frozen? ⟨w.heap.size + 1, 0, none⟩ = false := frozen_row hB'.out 0
  have hR1 := Lib.hid (hR'.set (B := w.heap.size + 1) (by omega) 0 (sV s))
  have hG1 := Lib.hid (g_new (gt hG0.out hg) (B := w.heap.size + 1) (by omega) 0 (sV s))
  have hZ1 := Lib.hid (row_other hZ'.out (C := w.heap.size + 1) (by omega) 0 (sV s))
  have hB1 : Hid ((w1.setCell ⟨w.heap.size + 1, 0, none⟩ (sV s)).heap[w.heap.size + 1]? = some (.cells #[sV s, iV 0, iV 0, iV 0, iV 0, iV 0, iV 0, iV 0, .string ⟨#[]⟩, iV 0, .slice none 0 0] 33 (0, 0))) := row_set hB'.out 0 (sV s)
  clear hg hR' hZ' hB' hR0 hG0 hZ0 hB0
  go_wp2_with fail
  clear c0 f0
  refine (rnumber_any p l1 _ hR1.out).mono ?_
  rintro e w2 ⟨hg, hh⟩
  cases hl : numP l1 with
  | none =>
    rw [hl] at hh
    subst hh
    refine ⟨rfl, gt hG1.out hg, ?_⟩
    simp only [paperP, hp1.out, hl, Option.bind_eq_bind, Option.bind_some, Option.bind_none]
  | some x =>
  obtain ⟨n1, l2⟩ := x
  rw [hl] at hh
  obtain ⟨rfl, hR'⟩ := hh
  have hp2 := Lib.hid hl; clear hl
  have hZ' := Lib.hid ((hg.block _ (block_lt hZ1.out) (by simp; omega)).trans hZ1.out)
  have hB' := Lib.hid ((hg.block _ (block_lt hB1.out) (by simp; omega)).trans hB1.out)
  have c1 : w2.cell? ⟨w.heap.size + 1, 1, none⟩ = some (iV 0) := cell_of_row w2 _ 1 _ _ _ hB'.out
  have f1 : w2.frozen? ⟨w.heap.size + 1, 1, none⟩ = false := frozen_row hB'.out 1
  have hR2 := Lib.hid (hR'.set (B := w.heap.size + 1) (by omega) 1 (iV n1))
  have hG2 := Lib.hid (g_new (gt hG1.out hg) (B := w.heap.size + 1) (by omega) 1 (iV n1))
  have hZ2 := Lib.hid (row_other hZ'.out (C := w.heap.size + 1) (by omega) 1 (iV n1))
  have hB2 : Hid ((w2.setCell ⟨w.heap.size + 1, 1, none⟩ (iV n1)).heap[w.heap.size + 1]? = some (.cells #[sV s, iV n1, iV 0, iV 0, iV 0, iV 0, iV 0, iV 0, .string ⟨#[]⟩, iV 0, .slice none 0 0] 33 (0, 0))) := row_set hB'.out 1 (iV n1)
  clear hg hR' hZ' hB' hR1 hG1 hZ1 hB1
  go_wp2_with fail
  clear c1 f1
  refine (rnumber_any p l2 _ hR2.out).mono ?_
  rintro e w3 ⟨hg, hh⟩
  cases hl : numP l2 with
  | none =>
    rw [hl] at hh
    subst hh
    refine ⟨rfl, gt hG2.out hg, ?_⟩
    simp only [paperP, hp1.out, hp2.out, hl, Option.bind_eq_bind, Option.bind_some, Option.bind_none]
  | some x =>
  obtain ⟨n2, l3⟩ := x
  rw [hl] at hh
  obtain ⟨rfl, hR'⟩ := hh
  have hp3 := Lib.hid hl; clear hl
  have hZ' := Lib.hid ((hg.block _ (block_lt hZ2.out) (by simp; omega)).trans hZ2.out)
  have hB' := Lib.hid ((hg.block _ (block_lt hB2.out) (by simp; omega)).trans hB2.out)
  have c2 : w3.cell? ⟨w.heap.size + 1, 2, none⟩ = some (iV 0) := cell_of_row w3 _ 2 _ _ _ hB'.out
  have f2 : w3.frozen? ⟨w.heap.size + 1, 2, none⟩ = false := frozen_row hB'.out 2
  have hR3 := Lib.hid (hR'.set (B := w.heap.size + 1) (by omega) 2 (iV n2))
  have hG3 := Lib.hid (g_new (gt hG2.out hg) (B := w.heap.size + 1) (by omega) 2 (iV n2))
  have hZ3 := Lib.hid (row_other hZ'.out (C := w.heap.size + 1) (by omega) 2 (iV n2))
  have hB3 : Hid ((w3.setCell ⟨w.heap.size + 1, 2, none⟩ (iV n2)).heap[w.heap.size + 1]? = some (.cells #[sV s, iV n1, iV n2, iV 0, iV 0, iV 0, iV 0, iV 0, .string ⟨#[]⟩, iV 0, .slice none 0 0] 33 (0, 0))) := row_set hB'.out 2 (iV n2)
  clear hg hR' hZ' hB' hR2 hG2 hZ2 hB2
  go_wp2_with fail
  clear c2 f2
  refine (rnumber_any p l3 _ hR3.out).mono ?_
  rintro e w4 ⟨hg, hh⟩
  cases hl : numP l3 with
  | none =>
    rw [hl] at hh
    subst hh
    refine ⟨rfl, gt hG3.out hg, ?_⟩
    simp only [paperP, hp1.out, hp2.out, hp3.out, hl, Option.bind_eq_bind, Option.bind_some, Option.bind_none]
  | some x =>
  obtain ⟨n3, l4⟩ := x
  rw [hl] at hh
  obtain ⟨rfl, hR'⟩ := hh
  have hp4 := Lib.hid hl; clear hl
  have hZ' := Lib.hid ((hg.block _ (block_lt hZ3.out) (by simp; omega)).trans hZ3.out)
  have hB' := Lib.hid ((hg.block _ (block_lt hB3.out) (by simp; omega)).trans hB3.out)
  have c3 : w4.cell? ⟨w.heap.size + 1, 3, none⟩ = some (iV 0) := cell_of_row w4 _ 3 _ _ _ hB'.out
  have f3 : w4.frozen? ⟨w.heap.size + 1, 3, none⟩ = false := frozen_row hB'.out 3
  have hR4 := Lib.hid (hR'.set (B := w.heap.size + 1) (by omega) 3 (iV n3))
  have hG4 := Lib.hid (g_new (gt hG3.out hg) (B := w.heap.size + 1) (by omega) 3 (iV n3))
  have hZ4 := Lib.hid (row_other hZ'.out (C := w.heap.size + 1) (by omega) 3 (iV n3))
  have hB4 : Hid ((w4.setCell ⟨w.heap.size + 1, 3, none⟩ (iV n3)).heap[w.heap.size + 1]? = some (.cells #[sV s, iV n1, iV n2, iV n3, iV 0, iV 0, iV 0, iV 0, .string ⟨#[]⟩, iV 0, .slice none 0 0] 33 (0, 0))) := row_set hB'.out 3 (iV n3)
  clear hg hR' hZ' hB' hR3 hG3 hZ3 hB3
  go_wp2_with fail
  clear c3 f3
  refine (rnumber_any p l4 _ hR4.out).mono ?_
  rintro e w5 ⟨hg, hh⟩
  cases hl : numP l4 with
  | none =>
    rw [hl] at hh
    subst hh
    refine ⟨rfl, gt hG4.out hg, ?_⟩
    simp only [paperP, hp1.out, hp2.out, hp3.out, hp4.out, hl, Option.bind_eq_bind, Option.bind_some, Option.bind_none]
  | some x =>
  obtain ⟨n4, l5⟩ := x
  rw [hl] at hh
  obtain ⟨rfl, hR'⟩ := hh
  have hp5 := Lib.hid hl; clear hl
  have hZ' := Lib.hid ((hg.block _ (block_lt hZ4.out) (by simp; omega)).trans hZ4.out)
  have hB' := Lib.hid ((hg.block _ (block_lt hB4.out) (by simp; omega)).trans hB4.out)
  have c4 : w5.cell? ⟨w.heap.size + 1, 4, none⟩ = some (iV 0) := cell_of_row w5 _ 4 _ _ _ hB'.out
  have f4 : w5.frozen? ⟨w.heap.size + 1, 4, none⟩ = false := frozen_row hB'.out 4
  have hR5 := Lib.hid (hR'.set (B := w.heap.size + 1) (by omega) 4 (iV n4))
  have hG5 := Lib.hid (g_new (gt hG4.out hg) (B := w.heap.size + 1) (by omega) 4 (iV n4))
  have hZ5 := Lib.hid (row_other hZ'.out (C := w.heap.size + 1) (by omega) 4 (iV n4))
  have hB5 : Hid ((w5.setCell ⟨w.heap.size + 1, 4, none⟩ (iV n4)).heap[w.heap.size + 1]? = some (.cells #[sV s, iV n1, iV n2, iV n3, iV n4, iV 0, iV 0, iV 0, .string ⟨#[]⟩, iV 0, .slice none 0 0] 33 (0, 0))) := row_set hB'.out 4 (iV n4)
  clear hg hR' hZ' hB' hR4 hG4 hZ4 hB4
  go_wp2_with fail
  clear c4 f4
  refine (rnumber_any p l5 _ hR5.out).mono ?_
  rintro e w6 ⟨hg, hh⟩
  cases hl : numP l5 with
  | none =>
    rw [hl] at hh
    subst hh
    refine ⟨rfl, gt hG5.out hg, ?_⟩
    simp only [paperP, hp1.out, hp2.out, hp3.out, hp4.out, hp5.out, hl, Option.bind_eq_bind, Option.bind_some, Option.bind_none]
  | some x =>
  obtain ⟨n5, l6⟩ := x
  rw [hl] at hh
  obtain ⟨rfl, hR'⟩ := hh
  have hp6 := Lib.hid hl; clear hl
  have hZ' := Lib.hid ((hg.block _ (block_lt hZ5.out) (by simp; omega)).trans hZ5.out)
  have hB' := Lib.hid ((hg.block _ (block_lt hB5.out) (by simp; omega)).trans hB5.out)
  have c5 : w6.cell? ⟨w.heap.size + 1, 5, none⟩ = some (iV 0) := cell_of_row w6 _ 5 _ _ _ hB'.out
  have f5 : w6.frozen? ⟨w.heap.size + 1, 5, none⟩ = false := frozen_row hB'.out 5
  have hR6 := Lib.hid (hR'.set (B := w.heap.size + 1) (by omega) 5 (iV n5))
  have hG6 := Lib.hid (g_new (gt hG5.out hg) (B := w.heap.size + 1) (by omega) 5 (iV n5))
  have hZ6 := Lib.hid (row_other hZ'.out (C := w.heap.size + 1) (by omega) 5 (iV n5))
  have hB6 : Hid ((w6.setCell ⟨w.heap.size + 1, 5, none⟩ (iV n5)).heap[w.heap.size + 1]? = some (.cells #[sV s, iV n1, iV n2, iV n3, iV n4, iV n5, iV 0, iV 0, .string ⟨#[]⟩, iV 0, .slice none 0 0] 33 (0, 0))) := row_set hB'.out 5 (iV n5)
  clear hg hR' hZ' hB' hR5 hG5 hZ5 hB5
  go_wp2_with fail
  clear c5 f5
  refine (rnumber_any p l6 _ hR6.out).mono ?_
  rintro e w7 ⟨hg, hh⟩
  cases hl : numP l6 with
  | none =>
    rw [hl] at hh
    subst hh
    refine ⟨rfl, gt hG6.out hg, ?_⟩
    simp only [paperP, hp1.out, hp2.out, hp3.out, hp4.out, hp5.out, hp6.out, hl, Option.bind_eq_bind, Option.bind_some, Option.bind_none]
  | some x =>
  obtain ⟨n6, l7⟩ := x
  rw [hl] at hh
  obtain ⟨rfl, hR'⟩ := hh
  have hp7 := Lib.hid hl; clear hl
  have hZ' := Lib.hid ((hg.block _ (block_lt hZ6.out) (by simp; omega)).trans hZ6.out)
  have hB' := Lib.hid ((hg.block _ (block_lt hB6.out) (by simp; omega)).trans hB6.out)
  have c6 : w7.cell? ⟨w.heap.size + 1, 6, none⟩ = some (iV 0) := cell_of_row w7 _ 6 _ _ _ hB'.out
  have f6 : w7.frozen? ⟨w.heap.size + 1, 6, none⟩ = false := frozen_row hB'.out 6
  have hR7 := Lib.hid (hR'.set (B := w.heap.size + 1) (by omega) 6 (iV n6))
  have hG7 := Lib.hid (g_new (gt hG6.out hg) (B := w.heap.size + 1) (by omega) 6 (iV n6))
  have hZ7 := Lib.hid (row_other hZ'.out (C := w.heap.size + 1) (by omega) 6 (iV n6))
  have hB7 : Hid ((w7.setCell ⟨w.heap.size + 1, 6, none⟩ (iV n6)).heap[w.heap.size + 1]? = some (.cells #[sV s, iV n1, iV n2, iV n3, iV n4, iV n5, iV n6, iV 0, .string ⟨#[]⟩, iV 0, .slice none 0 0] 33 (0, 0))) := row_set hB'.out 6 (iV n6)
  clear hg hR' hZ' hB' hR6 hG6 hZ6 hB6
  go_wp2_with fail
  clear c6 f6
  refine (rnumber_any p l7 _ hR7.out).mono ?_
  rintro e w8 ⟨hg, hh⟩
  cases hl : numP l7 with
  | none =>
    rw [hl] at hh
    subst hh
    refine ⟨rfl, gt hG7.out hg, ?_⟩
    simp only [paperP, hp1.out, hp2.out, hp3.out, hp4.out, hp5.out, hp6.out, hp7.out, hl, Option.bind_eq_bind, Option.bind_some, Option.bind_none]
  | some x =>
  obtain ⟨n7, l8⟩ := x
  rw [hl] at hh
  obtain ⟨rfl, hR'⟩ := hh
  have hp8 := Lib.hid hl; clear hl
  have hZ' := Lib.hid ((hg.block _ (block_lt hZ7.out) (by simp; omega)).trans hZ7.out)
  have hB' := Lib.hid ((hg.block _ (block_lt hB7.out) (by simp; omega)).trans hB7.out)
  have c7 : w8.cell? ⟨w.heap.size + 1, 7, none⟩ = some (iV 0) := cell_of_row w8 _ 7 _ _ _ hB'.out
  have f7 : w8.frozen? ⟨w.heap.size + 1, 7, none⟩ = false := frozen_row hB'.out 7
  have hR8 := Lib.hid (hR'.set (B := w.heap.size + 1) (by omega) 7 (iV n7))
  have hG8 := Lib.hid (g_new (gt hG7.out hg) (B := w.heap.size + 1) (by omega) 7 (iV n7))
  have hZ8 := Lib.hid (row_other hZ'.out (C := w.heap.size + 1) (by omega) 7 (iV n7))
  have hB8 : Hid ((w8.setCell ⟨w.heap.size + 1, 7, none⟩ (iV n7)).heap[w.heap.size + 1]? = some (.cells #[sV s, iV n1, iV n2, iV n3, iV n4, iV n5, iV n6, iV n7, .string ⟨#[]⟩, iV 0, .slice none 0 0] 33 (0, 0))) := row_set hB'.out 7 (iV n7)
  clear hg hR' hZ' hB' hR7 hG7 hZ7 hB7
  go_wp2_with fail
  clear c7 f7
  refine (rtext_any p l8 _ hR8.out).mono ?_
  rintro e w9 ⟨hg, hh⟩
  cases hl : txtP l8 with
  | none =>
    rw [hl] at hh
    subst hh
    refine ⟨rfl, gt hG8.out hg, ?_⟩
    simp only [paperP, hp1.out, hp2.out, hp3.out, hp4.out, hp5.out, hp6.out, hp7.out, hp8.out, hl, Option.bind_eq_bind, Option.bind_some, Option.bind_none]
  | some x =>
  obtain ⟨t, l9⟩ := x
  rw [hl] at hh
  obtain ⟨rfl, hR'⟩ := hh
  have hp9 := Lib.hid hl; clear hl
  have hZ' := Lib.hid ((hg.block _ (block_lt hZ8.out) (by simp; omega)).trans hZ8.out)
  have hB' := Lib.hid ((hg.block _ (block_lt hB8.out) (by simp; omega)).trans hB8.out)
  have c8 : w9.cell? ⟨w.heap.size + 1, 8, none⟩ = some (.string ⟨#[]⟩) := cell_of_row w9 _ 8 _ _ _ hB'.out
  have f8 : w9.frozen? ⟨w.heap.size + 1, 8, none⟩ = false := frozen_row hB'.out 8
  have hR9 := Lib.hid (hR'.set (B := w.heap.size + 1) (by omega) 8 (sV t))
  have hG9 := Lib.hid (g_new (gt hG8.out hg) (B := w.heap.size + 1) (by omega) 8 (sV t))
  have hZ9 := Lib.hid (row_other hZ'.out (C := w.heap.size + 1) (by omega) 8 (sV t))
  have hB9 : Hid ((w9.setCell ⟨w.heap.size + 1, 8, none⟩ (sV t)).heap[w.heap.size + 1]? = some (.cells #[sV s, iV n1, iV n2, iV n3, iV n4, iV n5, iV n6, iV n7, sV t, iV 0, .slice none 0 0] 33 (0, 0))) := row_set hB'.out 8 (sV t)
  clear hg hR' hZ' hB' hR8 hG8 hZ8 hB8
  go_wp2_with fail
  clear c8 f8
  refine (rnumber_any p l9 _ hR9.out).mono ?_
  rintro e w10 ⟨hg, hh⟩
  cases hl : numP l9 with
  | none =>
    rw [hl] at hh
    subst hh
    refine ⟨rfl, gt hG9.out hg, ?_⟩
    simp only [paperP, hp1.out, hp2.out, hp3.out, hp4.out, hp5.out, hp6.out, hp7.out, hp8.out, hp9.out, hl, Option.bind_eq_bind, Option.bind_some, Option.bind_none]
  | some x =>
  obtain ⟨n9, l10⟩ := x
  rw [hl] at hh
  obtain ⟨rfl, hR'⟩ := hh
  have hp10 := Lib.hid hl; clear hl
  have hZ' := Lib.hid ((hg.block _ (block_lt hZ9.out) (by simp; omega)).trans hZ9.out)
  have hB' := Lib.hid ((hg.block _ (block_lt hB9.out) (by simp; omega)).trans hB9.out)
  have c9 : w10.cell? ⟨w.heap.size + 1, 9, none⟩ = some (iV 0) := cell_of_row w10 _ 9 _ _ _ hB'.out
  have f9 : w10.frozen? ⟨w.heap.size + 1, 9, none⟩ = false := frozen_row hB'.out 9
  have hR10 := Lib.hid (hR'.set (B := w.heap.size + 1) (by omega) 9 (iV n9))
  have hG10 := Lib.hid (g_new (gt hG9.out hg) (B := w.heap.size + 1) (by omega) 9 (iV n9))
  have hZ10 := Lib.hid (row_other hZ'.out (C := w.heap.size + 1) (by omega) 9 (iV n9))
  have hB10 : Hid ((w10.setCell ⟨w.heap.size + 1, 9, none⟩ (iV n9)).heap[w.heap.size + 1]? = some (.cells #[sV s, iV n1, iV n2, iV n3, iV n4, iV n5, iV n6, iV n7, sV t, iV n9, .slice none 0 0] 33 (0, 0))) := row_set hB'.out 9 (iV n9)
  clear hg hR' hZ' hB' hR9 hG9 hZ9 hB9
  go_wp2_with fail
  clear c9 f9
  refine (rlength_any p l10 _ hR10.out).mono ?_
  rintro e w11 ⟨hg, hh⟩
  cases hl : lenP l10 with
  | none =>
    rw [hl] at hh
    subst hh
    refine ⟨rfl, gt hG10.out hg, ?_⟩
    simp only [paperP, hp1.out, hp2.out, hp3.out, hp4.out, hp5.out, hp6.out, hp7.out, hp8.out, hp9.out, hp10.out, hl, Option.bind_eq_bind, Option.bind_some, Option.bind_none]
  | some x =>
  obtain ⟨n, l11⟩ := x
  rw [hl] at hh
  obtain ⟨rfl, hR'⟩ := hh
  have hn65 := lenP_le hl
  have hp11 := Lib.hid hl; clear hl
  have hZ' := Lib.hid ((hg.block _ (block_lt hZ10.out) (by simp; omega)).trans hZ10.out)
  have hB' := Lib.hid ((hg.block _ (block_lt hB10.out) (by simp; omega)).trans hB10.out)
  have hG' := Lib.hid (gt hG10.out hg)
  have hR'' := Lib.hid hR'
  have hw2 : Hid (w.heap.size + 2 ≤ w11.heap.size) := by have := block_lt hB'.out; show _ ≤ _; omega
  clear hg hR' hR10 hG10 hZ10 hB10
  go_wp2
  go_loopg [45] n (fun g ix wr => ∃ (ss : List Int) (l' : List UInt8) (v : Value), ss.length + g = n ∧ ix = iV ss.length ∧ w.grownBy wr (some p) ∧ Rr wr p l' ∧ wr.heap[w.heap.size]? = some (.cells #[.string ⟨#[]⟩, iV 0, iV 0, iV 0, iV 0, iV 0, iV 0, iV 0, .string ⟨#[]⟩, iV 0, .slice none 0 0] 33 (0, 0)) ∧ wr.heap[w.heap.size + 1]? = some (.cells #[sV s, iV n1, iV n2, iV n3, iV n4, iV n5, iV n6, iV n7, sV t, iV n9, v] 33 (0, 0)) ∧ wr.ownsRow (w.heap.size + 2) 3 1 v ss.length (ss.map iV) ∧ w.heap.size + 2 ≤ wr.heap.size ∧ Hid (numsP n l11 = (numsP g l').map fun x => (ss ++ x.1, x.2)))
  case atStart =>
    refine ⟨[], l11, .slice none 0 0, by simp, rfl, hG'.out, hR''.out, hZ'.out, hB'.out, World.ownsRow_nil _ _ _ _, hw2.out, ?_⟩
    show _ = _
    cases numsP n l11 <;> rfl
  case round =>
    obtain ⟨ss, l', v, hk, rfl, h1, h2, h3, h4, h5, h6, HF⟩ := hrel
    have H1 := Lib.hid h1; clear h1
    have H2 := Lib.hid h2; clear h2
    have H3 := Lib.hid h3; clear h3
    have H4 := Lib.hid h4; clear h4
    have H5 := Lib.hid h5; clear h5
    obtain ⟨A, c, rfl⟩ := own_form H5.out
    cases gk with
    | zero =>
      have hlt : ¬ (ss.length : Int) < (n : Int) := by omega
      have c0 : wr.cell? ⟨w.heap.size + 1, 0, none⟩ = some (sV s) := cell_of_row wr _ 0 _ _ _ H4.out
      have z0 : wr.cell? ⟨w.heap.size, 0, none⟩ = some (.string ⟨#[]⟩) := cell_of_row wr _ 0 _ _ _ H3.out
      have y0 : wr.frozen? ⟨w.heap.size, 0, none⟩ = false := frozen_row H3.out 0
      have c1 : wr.cell? ⟨w.heap.size + 1, 1, none⟩ = some (iV n1) := cell_of_row wr _ 1 _ _ _ H4.out
      have z1 : wr.cell? ⟨w.heap.size, 1, none⟩ = some (iV 0) := cell_of_row wr _ 1 _ _ _ H3.out
      have y1 : wr.frozen? ⟨w.heap.size, 1, none⟩ = false := frozen_row H3.out 1
      have c2 : wr.cell? ⟨w.heap.size + 1, 2, none⟩ = some (iV n2) := cell_of_row wr _ 2 _ _ _ H4.out
      have z2 : wr.cell? ⟨w.heap.size, 2, none⟩ = some (iV 0) := cell_of_row wr _ 2 _ _ _ H3.out
      have y2 : wr.frozen? ⟨w.heap.size, 2, none⟩ = false := frozen_row H3.out 2
      have c3 : wr.cell? ⟨w.heap.size + 1, 3, none⟩ = some (iV n3) := cell_of_row wr _ 3 _ _ _ H4.out
      have z3 : wr.cell? ⟨w.heap.size, 3, none⟩ = some (iV 0) := cell_of_row wr _ 3 _ _ _ H3.out
      have y3 : wr.frozen? ⟨w.heap.size, 3, none⟩ = false := frozen_row H3.out 3
      have c4 : wr.cell? ⟨w.heap.size + 1, 4, none⟩ = some (iV n4) := cell_of_row wr _ 4 _ _ _ H4.out
      have z4 : wr.cell? ⟨w.heap.size, 4, none⟩ = some (iV 0) := cell_of_row wr _ 4 _ _ _ H3.out
      have y4 : wr.frozen? ⟨w.heap.size, 4, none⟩ = false := frozen_row H3.out 4
      have c5 : wr.cell? ⟨w.heap.size + 1, 5, none⟩ = some (iV n5) := cell_of_row wr _ 5 _ _ _ H4.out
      have z5 : wr.cell? ⟨w.heap.size, 5, none⟩ = some (iV 0) := cell_of_row wr _ 5 _ _ _ H3.out
      have y5 : wr.frozen? ⟨w.heap.size, 5, none⟩ = false := frozen_row H3.out 5
      have c6 : wr.cell? ⟨w.heap.size + 1, 6, none⟩ = some (iV n6) := cell_of_row wr _ 6 _ _ _ H4.out
      have z6 : wr.cell? ⟨w.heap.size, 6, none⟩ = some (iV 0) := cell_of_row wr _ 6 _ _ _ H3.out
      have y6 : wr.frozen? ⟨w.heap.size, 6, none⟩ = false := frozen_row H3.out 6
      have c7 : wr.cell? ⟨w.heap.size + 1, 7, none⟩ = some (iV n7) := cell_of_row wr _ 7 _ _ _ H4.out
      have z7 : wr.cell? ⟨w.heap.size, 7, none⟩ = some (iV 0) := cell_of_row wr _ 7 _ _ _ H3.out
      have y7 : wr.frozen? ⟨w.heap.size, 7, none⟩ = false := frozen_row H3.out 7
      have c8 : wr.cell? ⟨w.heap.size + 1, 8, none⟩ = some (sV t) := cell_of_row wr _ 8 _ _ _ H4.out
      have z8 : wr.cell? ⟨w.heap.size, 8, none⟩ = some (.string ⟨#[]⟩) := cell_of_row wr _ 8 _ _ _ H3.out
      have y8 : wr.frozen? ⟨w.heap.size, 8, none⟩ = false := frozen_row H3.out 8
      have c9 : wr.cell? ⟨w.heap.size + 1, 9, none⟩ = some (iV n9) := cell_of_row wr _ 9 _ _ _ H4.out
      have z9 : wr.cell? ⟨w.heap.size, 9, none⟩ = some (iV 0) := cell_of_row wr _ 9 _ _ _ H3.out
      have y9 : wr.frozen? ⟨w.heap.size, 9, none⟩ = false := frozen_row H3.out 9
      have c10 : wr.cell? ⟨w.heap.size + 1, 10, none⟩ = some (.slice A ss.length c) := cell_of_row wr _ 10 _ _ _ H4.out
      have z10 : wr.cell? ⟨w.heap.size, 10, none⟩ = some (.slice none 0 0) := cell_of_row wr _ 10 _ _ _ H3.out
      have y10 : wr.frozen? ⟨w.heap.size, 10, none⟩ = false := frozen_row H3.out 10
      have HNE : Hid (∀ a, A = some a → a.block ≠ w.heap.size) := fun a ha => by have := own_at H5.out a ha; omega
      go_wp2
      refine bodyPost_ret (v := .agg #[sV s, iV n1, iV n2, iV n3, iV n4, iV n5, iV n6, iV n7, sV t, iV n9, .slice A ss.length c]) (by simp [results, Try.results62, go_sem, z0, z1, z2, z3, z4, z5, z6, z7, z8, z9, z10]) rfl ?_
      refine ⟨(g_new (g_new (g_new (g_new (g_new (g_new (g_new (g_new (g_new (g_new (g_new H1.out (B := w.heap.size) (Nat.le_refl _) 0 (sV s)) (B := w.heap.size) (Nat.le_refl _) 1 (iV n1)) (B := w.heap.size) (Nat.le_refl _) 2 (iV n2)) (B := w.heap.size) (Nat.le_refl _) 3 (iV n3)) (B := w.heap.size) (Nat.le_refl _) 4 (iV n4)) (B := w.heap.size) (Nat.le_refl _) 5 (iV n5)) (B := w.heap.size) (Nat.le_refl _) 6 (iV n6)) (B := w.heap.size) (Nat.le_refl _) 7 (iV n7)) (B := w.heap.size) (Nat.le_refl _) 8 (sV t)) (B := w.heap.size) (Nat.le_refl _) 9 (iV n9)) (B := w.heap.size) (Nat.le_refl _) 10 (.slice A ss.length c)), ?_⟩
      have hf := HF.out
      simp only [numsP, Option.map_some, List.append_nil] at hf
      simp only [paperP, hp1.out, hp2.out, hp3.out, hp4.out, hp5.out, hp6.out, hp7.out, hp8.out, hp9.out, hp10.out, hp11.out, hf, Option.bind_eq_bind, Option.bind_some]
      refine ⟨A, c, rfl, (rd_set (rd_set (rd_set (rd_set (rd_set (rd_set (rd_set (rd_set (rd_set (rd_set (rd_set (own_rd H5.out) (B := w.heap.size) HNE.out 0 (sV s)) (B := w.heap.size) HNE.out 1 (iV n1)) (B := w.heap.size) HNE.out 2 (iV n2)) (B := w.heap.size) HNE.out 3 (iV n3)) (B := w.heap.size) HNE.out 4 (iV n4)) (B := w.heap.size) HNE.out 5 (iV n5)) (B := w.heap.size) HNE.out 6 (iV n6)) (B := w.heap.size) HNE.out 7 (iV n7)) (B := w.heap.size) HNE.out 8 (sV t)) (B := w.heap.size) HNE.out 9 (iV n9)) (B := w.heap.size) HNE.out 10 (.slice A ss.length c)), fun a ha => by have := own_at H5.out a ha; simp [World.setCell]; omega, (((((((((((H2.out.set (B := w.heap.size) hpw 0 (sV s)).set (B := w.heap.size) hpw 1 (iV n1)).set (B := w.heap.size) hpw 2 (iV n2)).set (B := w.heap.size) hpw 3 (iV n3)).set (B := w.heap.size) hpw 4 (iV n4)).set (B := w.heap.size) hpw 5 (iV n5)).set (B := w.heap.size) hpw 6 (iV n6)).set (B := w.heap.size) hpw 7 (iV n7)).set (B := w.heap.size) hpw 8 (sV t)).set (B := w.heap.size) hpw 9 (iV n9)).set (B := w.heap.size) hpw 10 (.slice A ss.length c))⟩
    | succ g1 =>
      have hlt : (ss.length : Int) < (n : Int) := by omega
      have c10 : wr.cell? ⟨w.heap.size + 1, 10, none⟩ = some (.slice A ss.length c) := cell_of_row wr _ 10 _ _ _ H4.out
      have f10 : wr.frozen? ⟨w.heap.size + 1, 10, none⟩ = false := frozen_row H4.out 10
      have hB3 : Hid (w.heap.size + 1 < wr.heap.size) := block_lt H4.out
      cases hl : numP l' with
      | none =>
        have HL := Lib.hid hl; clear hl
        have HN : Hid (paperP l0 = none) := by
          have hf := HF.out
          simp only [numsP, HL.out, Option.map_none] at hf
          show _ = _
          simp only [paperP, hp1.out, hp2.out, hp3.out, hp4.out, hp5.out, hp6.out, hp7.out, hp8.out, hp9.out, hp10.out, hp11.out, hf, Option.bind_eq_bind, Option.bind_some, Option.bind_none]
        go_wp2
        have hq : ∀ (W : World), W = wr.drew → Calls Try.prog 58 #[.pointer (some ⟨p, 0, none⟩)] W fun e w7 => e = Fail ∧ wr.grownBy w7 (some p) := by
          rintro W rfl
          refine (rnumber_any p l' _ (Rr.drew H2.out)).mono ?_
          rintro e w7 ⟨hg7, hh⟩
          rw [HL.out] at hh
          exact ⟨hh, g_undrew hg7⟩
        have HQ := Lib.hid hq; clear hq
        refine wp_region_any (by kernel_rfl) ?_
        change wpAny _ _ _ _ _ _ _ (World.drew _)
        refine wpAny_take (i := 0) (v := ?_) rfl (by kernel_rfl) (by kernel_rfl) (by kernel_rfl) (fun _ _ _ h => h) (Or.inl ⟨by rfl, ?_⟩) ?_
        rotate_left
        · intro w; go_simp; rfl
        refine wpAny_take (i := 1) (v := ?_) rfl (by kernel_rfl) (by kernel_rfl) (by kernel_rfl) (fun _ _ _ h => h) (Or.inl ⟨by rfl, ?_⟩) ?_
        rotate_left
        · intro w; go_simp; rfl
        refine wpAny_take (i := 3) (v := ?_) rfl (by kernel_rfl) (by kernel_rfl) (by kernel_rfl) (fun _ _ _ h => h) (Or.inl ⟨by rfl, ?_⟩) ?_
        rotate_left
        · intro w; go_simp; rfl
        have fin : ∀ (a : Act) (w7 : World), a.defers = [] → wr.grownBy w7 (some p) → (bodyPost Try.prog Try.f62 (ListRes p paperCells (fun x => x.path.map iV) w (paperP l0))) (Exit.panic [{ v := .iface 64 (.agg #[]), recovered := false }]) a w7 := fun a w7 hd hg => ⟨hd, gt H1.out hg, by rw [HN.out]⟩
        have FIN := Lib.hid fin; clear fin
        refine wpAny_ready (rs := [2, 4]) (by kernel_rfl) (by simp) ?_
        refine AllReady.cons rfl (fun K hK => ?_) ?_
        · go_simp
          refine hK _ _ ?_
          clear hK K
          refine wpAny_ready (rs := [4]) (by kernel_rfl) (by simp) ?_
          refine AllReady.cons rfl (fun K hK => ?_) AllReady.nil
          go_simp
          refine (HQ.out _ rfl).mono ?_
          rintro e w7 ⟨rfl, hg7⟩
          exact FIN.out _ w7 rfl hg7
        · refine AllReady.cons rfl (fun K hK => ?_) AllReady.nil
          go_simp
          refine (HQ.out _ rfl).mono ?_
          rintro e w7 ⟨rfl, hg7⟩
          exact FIN.out _ w7 rfl hg7
      | some x =>
        obtain ⟨s7, l7⟩ := x
        have HL := Lib.hid hl; clear hl
        obtain ⟨i0, hi0, hz0, hz1, hz2⟩ := info_parts intInfo
        go_wp2
        go_region_law (first
            | (go_simp; go_at_call 58; refine (rnumber_any p l' _ (Rr.drew H2.out)).mono ?_; rintro e w7 ⟨hg7, hh⟩; rw [HL.out] at hh; obtain ⟨rfl, hR7⟩ := hh; have HG7 : Hid (wr.grownBy w7 (some p)) := g_undrew hg7; clear hg7; have HR7 := Lib.hid hR7; clear hR7; have hlt7 : w.heap.size + 1 < w7.heap.size := Nat.lt_of_lt_of_le hB3.out HG7.out.size; have a7 : ∀ o, (w7.alloc o).cell? ⟨w.heap.size + 1, 10, none⟩ = w7.cell? ⟨w.heap.size + 1, 10, none⟩ := fun o => World.cell?_alloc_past _ _ _ hlt7; have c7 : w7.cell? ⟨w.heap.size + 1, 10, none⟩ = some (.slice A ss.length c) := (World.cell?_of_block (a := ⟨w.heap.size + 1, 10, none⟩) (HG7.out.block _ hB3.out (by simp; omega))).trans c10; have f7 : w7.frozen? ⟨w.heap.size + 1, 10, none⟩ = false := (World.frozen?_of_block (a := ⟨w.heap.size + 1, 10, none⟩) (HG7.out.block _ hB3.out (by simp; omega))).trans f10)
            | (refine step_app (by rfl) _ _ _ _ (by rfl) (w.heap.size + 2) 3 i0 _ 1 8 Try.underlying29 hi0 hz0 hz1 hz2 (by rfl) _ ss.length _ (by rfl) ((own_g H5.out HG7.out (by omega)).alloc _) _ (by rfl) 1 [iV s7] (src_rd Try.underlying29 (Rd.new w7 [iV s7] _) rfl (by simp [Value.oneCell'])) (by unfold maxLen; omega) (by omega) (by have := HG7.out.size; simp; omega) ?_; intro A8 c8 w8 hown8 hgrow8 hat8; have HB8 : Hid (w8.heap[w.heap.size + 1]? = w7.heap[w.heap.size + 1]?) := block_app (own_g H5.out HG7.out (by omega)) hgrow8 (by omega) (Nat.lt_of_lt_of_le hB3.out HG7.out.size); have c9 : w8.cell? ⟨w.heap.size + 1, 10, none⟩ = some (.slice A ss.length c) := (World.cell?_of_block (a := ⟨w.heap.size + 1, 10, none⟩) HB8.out).trans c7; have f9 : w8.frozen? ⟨w.heap.size + 1, 10, none⟩ = false := (World.frozen?_of_block (a := ⟨w.heap.size + 1, 10, none⟩) HB8.out).trans f7; have HG8 := Lib.hid hgrow8; clear hgrow8; have HO8 := Lib.hid hown8; clear hown8; clear hat8))
        all_goals
          clear c10 f10 c7 f7
          go_wp2
          go_roundg g1
          case measure => omega
          case rel =>
            have hown7 := (own_g H5.out HG7.out (by omega)).alloc (Obj.cells #[iV s7] 3)
            have hsz7 := HG7.out.size
            refine ⟨ss ++ [s7], l7, .slice A8 (ss.length + 1) c8, by simp; omega, by simp, g_new (g_own (g_alloc (gt H1.out HG7.out) _) hown7 HG8.out (by omega)) (by omega) _ _, ((HR7.out.alloc _).own hown7 HG8.out (by omega)).set (by omega) _ _, ?_, ?_, ?_, ?_, ?_⟩
            · exact row_other ((block_app (own_g H5.out HG7.out (by omega)) HG8.out (by omega) (by omega)).trans ((HG7.out.block _ (by omega) (by simp; omega)).trans H3.out)) (by omega) _ _
            · exact row_set (HB8.out.trans ((HG7.out.block _ hB3.out (by simp; omega)).trans H4.out)) _ _
            · have := own_set HO8.out (B := w.heap.size + 1) (by omega) 10 (.slice A8 (ss.length + 1) c8)
              simpa using this
            · have := HG8.out.size
              simp [World.setCell] at this ⊢
              omega
            · show _ = _
              rw [HF.out]
              simp only [numsP, HL.out]
              cases numsP g1 l7 <;> simp
end Go.Proofs.Ytoaembpakmpolaa
