/-
  The walks over warrant.number at three words, and over Parse at two texts. The walks over the writing of a strings.Builder, and over Text at one certificate.
-/
import Derived.Test.YtjpabeoflhkfkaaGreatDoorPm
import Derived.LoopN
import Derived.Deep.AppendLies
import Derived.BigRegion
import Derived.Test.YtjpabeoflhkfkaaGreatDoorShelf
import Derived.Lib.Builder
import Derived.Lib.AppendStr
import Derived.Laws.Externs
namespace Go.Proofs.YtjpabeoflhkfkaaGreatDoor
open Go.RowKit
attribute [local go_sem] ba_get ba_extract ba_append

set_option maxHeartbeats 1000000 in
set_option maxRecDepth 100000 in
theorem number_27 (w : World) : Calls Tryz.prog 66 #[.string ⟨[50, 55].toArray⟩] w fun e w' => e = .returned (.tuple #[iV 27, .bool true]) ∧ w = w' := by
  go_enter Tryz.func66, Tryz.ntmps66
  go_wp2
  refine wp_loop_rounds 3 ?_
  rw [rounds_succ]
  go_wp2
  rw [rounds_succ]
  go_wp2
  rw [rounds_succ]
  go_wp2
  go_ret2
  exact ⟨rfl, rfl⟩
set_option maxHeartbeats 1000000 in
set_option maxRecDepth 100000 in
theorem number_9 (w : World) : Calls Tryz.prog 66 #[.string ⟨[57].toArray⟩] w fun e w' => e = .returned (.tuple #[iV 9, .bool true]) ∧ w = w' := by
  go_enter Tryz.func66, Tryz.ntmps66
  go_wp2
  refine wp_loop_rounds 2 ?_
  rw [rounds_succ]
  go_wp2
  rw [rounds_succ]
  go_wp2
  go_ret2
  exact ⟨rfl, rfl⟩
set_option maxHeartbeats 1000000 in
set_option maxRecDepth 100000 in
theorem number_no (w : World) : Calls Tryz.prog 66 #[.string ⟨([] : List UInt8).toArray⟩] w fun e w' => e = .returned (.tuple #[iV 0, .bool false]) ∧ w = w' := by
  go_enter Tryz.func66, Tryz.ntmps66
  go_wp2
  go_ret2
  exact ⟨rfl, rfl⟩
theorem below_none0 {w w' : World} (h : w.grownBy w' none) : Below w.heap.size w w' := ⟨h.os, h.tape, h.output, h.size, fun i hi => h.block i hi (by simp)⟩
theorem split_one : Lib.countB ⟨[50, 55, 32, 57].toArray⟩ ⟨[32].toArray⟩ = 1 ∧ Lib.splitB ⟨[32].toArray⟩ 0 1 ⟨[50, 55, 32, 57].toArray⟩ = [⟨[50, 55].toArray⟩, ⟨[57].toArray⟩] := ⟨by kernel_rfl, by kernel_rfl⟩
theorem split_two : Lib.countB ⟨[50, 55, 32, 32, 57].toArray⟩ ⟨[32].toArray⟩ = 2 ∧ Lib.splitB ⟨[32].toArray⟩ 0 2 ⟨[50, 55, 32, 32, 57].toArray⟩ = [⟨[50, 55].toArray⟩, ⟨([] : List UInt8).toArray⟩, ⟨[57].toArray⟩] := ⟨by kernel_rfl, by kernel_rfl⟩
theorem split_27 (w : World) (m : Int) (hm : w.cell? ⟨1, 0, none⟩ = some (iV m)) : Calls Tryz.prog 65 #[.string ⟨[50, 55, 32, 57].toArray⟩, .string ⟨[32].toArray⟩] w fun e w' => e = .returned (.slice (some ⟨w.heap.size, 0, none⟩) 2 2) ∧ w' = w.alloc (.cells #[.string ⟨[50, 55].toArray⟩, .string ⟨[57].toArray⟩] 9) := by
  have h := Tryz.strings_Split ⟨[50, 55, 32, 57].toArray⟩ ⟨[32].toArray⟩ m w (by decide) hm (by decide)
  rw [split_one.1, split_one.2] at h
  exact h
theorem split_none (w : World) (m : Int) (hm : w.cell? ⟨1, 0, none⟩ = some (iV m)) : Calls Tryz.prog 65 #[.string ⟨[50, 55, 32, 32, 57].toArray⟩, .string ⟨[32].toArray⟩] w fun e w' => e = .returned (.slice (some ⟨w.heap.size, 0, none⟩) 3 3) ∧ w' = w.alloc (.cells #[.string ⟨[50, 55].toArray⟩, .string ⟨([] : List UInt8).toArray⟩, .string ⟨[57].toArray⟩] 9) := by
  have h := Tryz.strings_Split ⟨[50, 55, 32, 32, 57].toArray⟩ ⟨[32].toArray⟩ m w (by decide) hm (by decide)
  rw [split_two.1, split_two.2] at h
  exact h
set_option maxHeartbeats 4000000 in
set_option maxRecDepth 100000 in
theorem parse_27 (w : World) (m : Int) (hm : w.cell? ⟨1, 0, none⟩ = some (iV m)) : Calls Tryz.prog 26 #[.string ⟨[50, 55, 32, 57].toArray⟩] w fun e w' => ∃ A c, e = .returned (.tuple #[.agg #[.slice A 1 c, iV 27], iV 0]) ∧ Rd w' A [iV 9] ∧ Below w.heap.size w w' := by
  have hm' : (w.alloc (.cells #[.slice none 0 0, iV 0] 43)).cell? ⟨1, 0, none⟩ = some (iV m) := cell_keepW (ba w _) hm
  have HM := Lib.hid hm'
  clear hm hm'
  go_enter Tryz.func26, Tryz.ntmps26
  go_wp2_with fail
  refine (split_27 _ m HM.out).mono ?_
  rintro e w1 ⟨rfl, rfl⟩
  go_wp2_with fail
  have hcw := heap_alloc_new (w.alloc (.cells #[.slice none 0 0, iV 0] 43)) (.cells #[.string ⟨[50, 55].toArray⟩, .string ⟨[57].toArray⟩] 9)
  rw [World.size_alloc] at hcw
  have hcc : ((w.alloc (.cells #[.slice none 0 0, iV 0] 43)).alloc (.cells #[.string ⟨[50, 55].toArray⟩, .string ⟨[57].toArray⟩] 9)).heap[w.heap.size]? = some (.cells #[.slice none 0 0, iV 0] 43 (0, 0)) := (Below.heap_alloc _ _ _ (by simp)).trans (heap_alloc_new _ _)
  have HCW := Lib.hid hcw
  have HCC := Lib.hid hcc
  have HB1 := Lib.hid (((Below.refl _ w).alloc (Nat.le_refl _) (.cells #[.slice none 0 0, iV 0] 43)).alloc (by simp) (.cells #[.string ⟨[50, 55].toArray⟩, .string ⟨[57].toArray⟩] 9))
  clear hcw hcc
  obtain ⟨i0, hi0, hz0, hz1, hz2⟩ := info_parts intWInf
  change Code.wp _ _ _ _ ((w.alloc (.cells #[.slice none 0 0, iV 0] 43)).alloc (.cells #[.string ⟨[50, 55].toArray⟩, .string ⟨[57].toArray⟩] 9))
  generalize ((w.alloc (.cells #[.slice none 0 0, iV 0] 43)).alloc (.cells #[.string ⟨[50, 55].toArray⟩, .string ⟨[57].toArray⟩] 9)) = W1 at *
  have c0 : W1.cell? ⟨w.heap.size + 1, 0, none⟩ = some (.string ⟨[50, 55].toArray⟩) := cell_of_row _ _ 0 _ _ _ HCW.out
  have HO : Hid (W1.ownsRow (w.heap.size + 2) 3 1 (.slice none 0 0) ([] : List Value).length []) := ⟨rfl, .inl ⟨rfl, rfl⟩⟩
  refine wp_loop_rounds 3 ?_
  rw [rounds_succ]
  go_wp2_with fail
  refine (number_27 _).mono ?_
  rintro e w2 ⟨rfl, rfl⟩
  have HN1 := Lib.hid (heap_alloc_new W1 (.cells #[iV 27] 3))
  have HBA := Lib.hid (ba W1 (.cells #[iV 27] 3))
  go_wp2_with (at_builtin; (refine wpList_append_lies _ rfl _ _ _ rfl (w.heap.size + 2) 3 i0 _ 1 8 Tryz.underlying25 hi0 hz0 hz1 hz2 rfl (by omega) _ _ _ rfl (own_below HO.out HBA.out) ⟨W1.heap.size, 0, none⟩ 1 1 [iV 27] rfl rfl (fun j u hu => by rw [add_at, Nat.zero_add]; exact (cell_of_row _ _ j _ _ _ HN1.out).trans (by simpa using hu)) (fun u hu => by simp at hu; subst hu; rfl) (by omega) (by unfold maxLen; simp) (by simp) (by have := block_lt HCW.out; simp; omega) (W1.heap.size + 1) (by simp) ?_; intro g cap w3 own1 hgrow hat hlt))
  have hb3 : Below W1.heap.size W1 w3 := bt HBA.out (below_none0 hgrow)
  have HB3 := Lib.hid (bt HB1.out hb3)
  have HCW3 := Lib.hid ((hb3.block _ (block_lt HCW.out)).trans HCW.out)
  have HCC3 := Lib.hid ((hb3.block _ (block_lt HCC.out)).trans HCC.out)
  have HO3 : Hid (w3.ownsRow (w.heap.size + 2) 3 1 (.slice (some ⟨g, 0, none⟩) 1 cap) 1 [iV 27]) := own1
  have HG3 := Lib.hid hlt
  clear own1 hgrow hat hlt hb3 HCW HCC HO HN1 HBA c0 HM HB1
  have c0 : w3.cell? ⟨w.heap.size + 1, 1, none⟩ = some (.string ⟨[57].toArray⟩) := cell_of_row _ _ 1 _ _ _ HCW3.out
  rw [rounds_succ]
  go_wp2_with fail
  refine (number_9 _).mono ?_
  rintro e w4 ⟨rfl, rfl⟩
  have HN1 := Lib.hid (heap_alloc_new w3 (.cells #[iV 9] 3))
  have HBA := Lib.hid (ba w3 (.cells #[iV 9] 3))
  go_wp2_with (at_builtin; refine wpList_append_lies _ rfl _ _ _ rfl (w.heap.size + 2) 3 i0 _ 1 8 Tryz.underlying25 hi0 hz0 hz1 hz2 rfl (by omega) _ _ _ rfl (own_below HO3.out HBA.out) ⟨w3.heap.size, 0, none⟩ 1 1 [iV 9] rfl rfl (fun j u hu => by rw [add_at, Nat.zero_add]; exact (cell_of_row _ _ j _ _ _ HN1.out).trans (by simpa using hu)) (fun u hu => by simp at hu; subst hu; rfl) (by omega) (by unfold maxLen; simp) (by simp) (by have := block_lt HCW3.out; simp; omega) (w3.heap.size + 1) (by simp) ?_; intro g2 cap2 w5 own1 hgrow hat hlt)
  have hgrow2 : (w3.alloc (.cells #[iV 9] 3)).grownBy w5 (some g) := hgrow
  have hgg : w.heap.size + 2 ≤ g := by
    obtain ⟨-, h | ⟨g', cap', cur, h, h1, -⟩⟩ := HO3.out
    · cases h.1
    · cases h
      exact h1
  have hgg2 : w.heap.size + 2 ≤ g2 := by
    obtain ⟨-, h | ⟨g', cap', cur, h, h1, -⟩⟩ := own1
    · cases h.1
    · cases h
      exact h1
  have hcap : 2 ≤ cap2 := by
    obtain ⟨-, h | ⟨g', cap', cur, h, -, -, h1, -⟩⟩ := own1
    · cases h.1
    · cases h
      exact h1
  have hc2 : w5.cell? ⟨g2, 0, none⟩ = some (iV 27) ∧ w5.cell? ⟨g2, 1, none⟩ = some (iV 9) := by
    have h0 := own1.cells (g := g2) rfl 0 (iV 27) rfl
    have h1 := own1.cells (g := g2) rfl 1 (iV 9) rfl
    rw [add_at] at h0 h1
    exact ⟨h0, h1⟩
  have hcc5 : w5.heap[w.heap.size]? = some (.cells #[.slice none 0 0, iV 0] 43 (0, 0)) := (hgrow2.block _ (by have := block_lt HCC3.out; rw [World.size_alloc]; omega) (fun e => by have e2 := Option.some.inj e; omega)).trans ((HBA.out.block _ (block_lt HCC3.out)).trans HCC3.out)
  have HB5 : Hid (Below w.heap.size w w5) := (bt HB3.out HBA.out).grown hgrow2 (by have := HB3.out.size; rw [World.size_alloc]; omega) (fun k e => by have e2 := Option.some.inj e; omega)
  have HCC5 := Lib.hid hcc5
  have HC2 := Lib.hid hc2
  have q0 : w5.cell? ⟨w.heap.size, 0, none⟩ = some (.slice none 0 0) := cell_of_row _ _ 0 _ _ _ hcc5
  have f0 := frozen_row hcc5 0
  have r1 := row_set hcc5 0 (.slice (some ⟨g2, 1, none⟩) 1 (cap2 - 1))
  have q1 : (w5.setCell ⟨w.heap.size, 0, none⟩ (.slice (some ⟨g2, 1, none⟩) 1 (cap2 - 1))).cell? ⟨w.heap.size, 1, none⟩ = some (iV 0) := cell_of_row _ _ 1 _ _ _ r1
  have f1 := frozen_row r1 1
  obtain ⟨e0, e1⟩ := hc2
  have hne : g2 ≠ w.heap.size := by omega
  clear own1 hgrow hgrow2 hat HO3 HN1 HBA HCC3 HCW3 c0 hcc5 r1 hgg hgg2
  rw [rounds_succ]
  go_wp2_with fail
  go_region
  go_wp2_with fail
  have HWF : Hid (((w5.setCell ⟨w.heap.size, 0, none⟩ (.slice (some ⟨g2, 1, none⟩) 1 (cap2 - 1))).setCell ⟨w.heap.size, 1, none⟩ (iV 27)).drew.heap[w.heap.size]? = some (.cells #[.slice (some ⟨g2, 1, none⟩) 1 (cap2 - 1), iV 27] 43 (0, 0))) := row_set (row_set HCC5.out 0 _) 1 _
  have HBF : Hid (Below w.heap.size w ((w5.setCell ⟨w.heap.size, 0, none⟩ (.slice (some ⟨g2, 1, none⟩) 1 (cap2 - 1))).setCell ⟨w.heap.size, 1, none⟩ (iV 27)).drew) := b_drew ((HB5.out.setCell (by simp) _).setCell (by simp) _)
  have HRF : Hid (Rd ((w5.setCell ⟨w.heap.size, 0, none⟩ (.slice (some ⟨g2, 1, none⟩) 1 (cap2 - 1))).setCell ⟨w.heap.size, 1, none⟩ (iV 27)).drew (some ⟨g2, 1, none⟩) [iV 9]) := .inr ⟨g2, 1, rfl, by simpa using hlt, fun j u hu => by
    have hj : j = 0 := by
      rcases j with _ | j
      · rfl
      · simp at hu
    subst hj
    cases Option.some.inj hu
    show World.cell? (World.setCell (World.setCell _ _ _) _ _) _ = _
    rw [World.cell?_setCell_other _ _ _ _ (by simp <;> omega), World.cell?_setCell_other _ _ _ _ (by simp <;> omega)]
    exact HC2.out.2⟩
  clear q0 f0 e0 e1
  change bodyPost _ _ _ _ _ ((w5.setCell ⟨w.heap.size, 0, none⟩ (.slice (some ⟨g2, 1, none⟩) 1 (cap2 - 1))).setCell ⟨w.heap.size, 1, none⟩ (iV 27)).drew
  generalize ((w5.setCell ⟨w.heap.size, 0, none⟩ (.slice (some ⟨g2, 1, none⟩) 1 (cap2 - 1))).setCell ⟨w.heap.size, 1, none⟩ (iV 27)).drew = WF at *
  have z0 : WF.cell? ⟨w.heap.size, 0, none⟩ = some (.slice (some ⟨g2, 1, none⟩) 1 (cap2 - 1)) := cell_of_row _ _ 0 _ _ _ HWF.out
  have z1 : WF.cell? ⟨w.heap.size, 1, none⟩ = some (iV 27) := cell_of_row _ _ 1 _ _ _ HWF.out
  exact bodyPost_ret (v := .tuple #[.agg #[.slice (some ⟨g2, 1, none⟩) 1 (cap2 - 1), iV 27], iV 0]) (by simp [results, Tryz.results26, go_sem, z0, z1]) rfl ⟨_, _, rfl, HRF.out, HBF.out⟩
set_option maxHeartbeats 4000000 in
set_option maxRecDepth 100000 in
theorem parse_none (w : World) (m : Int) (hm : w.cell? ⟨1, 0, none⟩ = some (iV m)) : Calls Tryz.prog 26 #[.string ⟨[50, 55, 32, 32, 57].toArray⟩] w fun e w' => e = .returned (.tuple #[.agg #[.slice none 0 0, iV 0], iV 90]) ∧ Below w.heap.size w w' := by
  have hm' : (w.alloc (.cells #[.slice none 0 0, iV 0] 43)).cell? ⟨1, 0, none⟩ = some (iV m) := cell_keepW (ba w _) hm
  have HM := Lib.hid hm'
  clear hm hm'
  go_enter Tryz.func26, Tryz.ntmps26
  go_wp2_with fail
  refine (split_none _ m HM.out).mono ?_
  rintro e w1 ⟨rfl, rfl⟩
  go_wp2_with fail
  have hcw := heap_alloc_new (w.alloc (.cells #[.slice none 0 0, iV 0] 43)) (.cells #[.string ⟨[50, 55].toArray⟩, .string ⟨([] : List UInt8).toArray⟩, .string ⟨[57].toArray⟩] 9)
  rw [World.size_alloc] at hcw
  have hcc : ((w.alloc (.cells #[.slice none 0 0, iV 0] 43)).alloc (.cells #[.string ⟨[50, 55].toArray⟩, .string ⟨([] : List UInt8).toArray⟩, .string ⟨[57].toArray⟩] 9)).heap[w.heap.size]? = some (.cells #[.slice none 0 0, iV 0] 43 (0, 0)) := (Below.heap_alloc _ _ _ (by simp)).trans (heap_alloc_new _ _)
  have HCW := Lib.hid hcw
  have HCC := Lib.hid hcc
  have HB1 := Lib.hid (((Below.refl _ w).alloc (Nat.le_refl _) (.cells #[.slice none 0 0, iV 0] 43)).alloc (by simp) (.cells #[.string ⟨[50, 55].toArray⟩, .string ⟨([] : List UInt8).toArray⟩, .string ⟨[57].toArray⟩] 9))
  clear hcw hcc
  obtain ⟨i0, hi0, hz0, hz1, hz2⟩ := info_parts intWInf
  change Code.wp _ _ _ _ ((w.alloc (.cells #[.slice none 0 0, iV 0] 43)).alloc (.cells #[.string ⟨[50, 55].toArray⟩, .string ⟨([] : List UInt8).toArray⟩, .string ⟨[57].toArray⟩] 9))
  generalize ((w.alloc (.cells #[.slice none 0 0, iV 0] 43)).alloc (.cells #[.string ⟨[50, 55].toArray⟩, .string ⟨([] : List UInt8).toArray⟩, .string ⟨[57].toArray⟩] 9)) = W1 at *
  have c0 : W1.cell? ⟨w.heap.size + 1, 0, none⟩ = some (.string ⟨[50, 55].toArray⟩) := cell_of_row _ _ 0 _ _ _ HCW.out
  have HO : Hid (W1.ownsRow (w.heap.size + 2) 3 1 (.slice none 0 0) ([] : List Value).length []) := ⟨rfl, .inl ⟨rfl, rfl⟩⟩
  refine wp_loop_rounds 3 ?_
  rw [rounds_succ]
  go_wp2_with fail
  refine (number_27 _).mono ?_
  rintro e w2 ⟨rfl, rfl⟩
  have HN1 := Lib.hid (heap_alloc_new W1 (.cells #[iV 27] 3))
  have HBA := Lib.hid (ba W1 (.cells #[iV 27] 3))
  go_wp2_with (at_builtin; refine wpList_append_lies _ rfl _ _ _ rfl (w.heap.size + 2) 3 i0 _ 1 8 Tryz.underlying25 hi0 hz0 hz1 hz2 rfl (by omega) _ _ _ rfl (own_below HO.out HBA.out) ⟨W1.heap.size, 0, none⟩ 1 1 [iV 27] rfl rfl (fun j u hu => by rw [add_at, Nat.zero_add]; exact (cell_of_row _ _ j _ _ _ HN1.out).trans (by simpa using hu)) (fun u hu => by simp at hu; subst hu; rfl) (by omega) (by unfold maxLen; simp) (by simp) (by have := block_lt HCW.out; simp; omega) (W1.heap.size + 1) (by simp) ?_; intro g cap w3 own1 hgrow hat hlt)
  have hb3 : Below W1.heap.size W1 w3 := bt HBA.out (below_none0 hgrow)
  have HB3 := Lib.hid (bt HB1.out hb3)
  have HCW3 := Lib.hid ((hb3.block _ (block_lt HCW.out)).trans HCW.out)
  have HCC3 := Lib.hid ((hb3.block _ (block_lt HCC.out)).trans HCC.out)
  clear own1 hgrow hat hlt hb3 HCW HCC HO HN1 HBA c0 HM HB1
  have c0 : w3.cell? ⟨w.heap.size + 1, 1, none⟩ = some (.string ⟨([] : List UInt8).toArray⟩) := cell_of_row _ _ 1 _ _ _ HCW3.out
  have q0 : w3.cell? ⟨w.heap.size, 0, none⟩ = some (.slice none 0 0) := cell_of_row _ _ 0 _ _ _ HCC3.out
  have f0 := frozen_row HCC3.out 0
  have r1 := row_set HCC3.out 0 (.slice none 0 0)
  have q1 : (w3.setCell ⟨w.heap.size, 0, none⟩ (.slice none 0 0)).cell? ⟨w.heap.size, 1, none⟩ = some (iV 0) := cell_of_row _ _ 1 _ _ _ r1
  have f1 := frozen_row r1 1
  clear r1
  rw [rounds_succ]
  go_wp2_with fail
  refine (number_no _).mono ?_
  rintro e w4 ⟨rfl, rfl⟩
  go_wp2_with fail
  have HWF : Hid (((w3.setCell ⟨w.heap.size, 0, none⟩ (.slice none 0 0)).setCell ⟨w.heap.size, 1, none⟩ (iV 0)).heap[w.heap.size]? = some (.cells #[.slice none 0 0, iV 0] 43 (0, 0))) := row_set (row_set HCC3.out 0 _) 1 _
  have HBF : Hid (Below w.heap.size w ((w3.setCell ⟨w.heap.size, 0, none⟩ (.slice none 0 0)).setCell ⟨w.heap.size, 1, none⟩ (iV 0))) := (HB3.out.setCell (by simp) _).setCell (by simp) _
  clear q0 f0 c0 q1 f1
  change bodyPost _ _ _ _ _ ((w3.setCell ⟨w.heap.size, 0, none⟩ (.slice none 0 0)).setCell ⟨w.heap.size, 1, none⟩ (iV 0))
  generalize ((w3.setCell ⟨w.heap.size, 0, none⟩ (.slice none 0 0)).setCell ⟨w.heap.size, 1, none⟩ (iV 0)) = WF at *
  have z0 : WF.cell? ⟨w.heap.size, 0, none⟩ = some (.slice none 0 0) := cell_of_row _ _ 0 _ _ _ HWF.out
  have z1 : WF.cell? ⟨w.heap.size, 1, none⟩ = some (iV 0) := cell_of_row _ _ 1 _ _ _ HWF.out
  exact bodyPost_ret (v := .tuple #[.agg #[.slice none 0 0, iV 0], iV 90]) (by simp [results, Tryz.results26, go_sem, z0, z1]) rfl ⟨rfl, HBF.out⟩
end Go.Proofs.YtjpabeoflhkfkaaGreatDoor
namespace Go.Proofs.YtjpabeoflhkfkaaGreatDoor
open Go.RowKit
attribute [local go_sem] ba_get ba_extract ba_append

theorem bdSize : (Tryz.prog.info? 123).map (·.size) = some 2 := by kernel_rfl
theorem bdLies : liesAt Tryz.prog Tryz.prog.depth 123 (2 / Tryz.prog.cellsOf 123) 0 123 1 = true := by kernel_rfl
theorem byteInf : (Tryz.prog.info? 5).map (fun i => (i.zero, i.size, i.bytes)) = some (some (.int .u8 0), 1, 1) := by kernel_rfl
set_option maxHeartbeats 1000000 in
set_option maxRecDepth 100000 in
theorem check_used (b : Nat) (w : World) (h0 : w.cell? ⟨b, 0, none⟩ = some (.pointer (some ⟨b, 0, none⟩))) : Calls Tryz.prog 99 #[.pointer (some ⟨b, 0, none⟩)] w fun e w' => e = .returned (.tuple #[]) ∧ w' = w := by
  obtain ⟨j, hj, -⟩ := Option.map_eq_some_iff.1 bdSize
  go_enter Tryz.func99, Tryz.ntmps99
  go_wp2
  rw [Lib.run_neq_ptr_same w _ Tryz.underlying120 hj]
  go_wp2
  go_end0
  exact ⟨rfl, rfl⟩
set_option maxHeartbeats 1000000 in
set_option maxRecDepth 100000 in
theorem check_new (b : Nat) (w : World) (h0 : w.cell? ⟨b, 0, none⟩ = some (.pointer none)) (hsh : w.shape? b = some (123, 2)) (hfz : w.frozen? ⟨b, 0, none⟩ = false) : Calls Tryz.prog 99 #[.pointer (some ⟨b, 0, none⟩)] w fun e w' => e = .returned (.tuple #[]) ∧ w' = w.setCell ⟨b, 0, none⟩ (.pointer (some ⟨b, 0, none⟩)) := by
  obtain ⟨j, hj, hjs⟩ := Option.map_eq_some_iff.1 bdSize
  go_enter Tryz.func99, Tryz.ntmps99
  go_wp2
  rw [Lib.run_to_unsafe w ⟨b, 0, none⟩ Tryz.underlying120 Tryz.underlying170 hj (by rw [hjs]; decide) hsh (Nat.zero_lt_succ 1)]
  simp only [Result.andThen]
  rw [Oper.upon_value]
  go_wp2
  rw [run_callFunc_extern Tryz.func133 (by kernel_rfl) (by kernel_rfl) (by kernel_rfl) (e := Extern.AbiNoEscape.same) (by kernel_rfl)]
  rw [Lib.run_noEscape]
  simp only [Result.andThen]
  rw [Oper.upon_value]
  go_wp2
  rw [Lib.run_from_unsafe w ⟨b, 0, none⟩ Tryz.underlying170 Tryz.underlying120 hj hsh bdLies]
  simp only [Result.andThen]
  rw [Oper.upon_value]
  go_wp2
  go_end0
  exact ⟨rfl, rfl⟩
theorem check_any (B b : Nat) (bs : List Value) (w : World) (h : Lib.IsBuilder 123 5 B b bs w) :
    Calls Tryz.prog 99 #[.pointer (some ⟨b, 0, none⟩)] w fun e w' => e = .returned (.tuple #[]) ∧ (Lib.BuilderAt 123 5 B b (.pointer (some ⟨b, 0, none⟩)) bs w' ∧ Below B w w') := by
  rcases h with h | h
  · refine (check_new b w h.cell0 h.shape h.frozen0).mono ?_
    rintro e w' ⟨rfl, rfl⟩
    exact ⟨rfl, h.used _, (Below.refl B w).setCell (p := ⟨b, 0, none⟩) h.1 _⟩
  · refine (check_used b w h.cell0).mono ?_
    rintro e w' ⟨rfl, rfl⟩
    exact ⟨rfl, h, Below.refl B _⟩
theorem slice_of {base : Nat} {W : World} {v : Value} {k : Nat} {xs : List Value} {e : TypeId} {s : Nat} (h : W.ownsRow base e s v k xs) : ∃ A n c, v = .slice A n c := by
  rcases h.2 with ⟨hv, _⟩ | ⟨g, cap, cur, hv, _⟩
  · exact ⟨_, _, _, hv⟩
  · exact ⟨_, _, _, hv⟩
set_option maxHeartbeats 2000000 in
set_option maxRecDepth 100000 in
theorem wbyte_any (B b : Nat) (bs : List Value) (c : Int) (w : World) (h : Lib.IsBuilder 123 5 B b bs w) (hl : bs.length ≤ 1000) (hBw : B ≤ w.heap.size) :
    Calls Tryz.prog 69 #[.pointer (some ⟨b, 0, none⟩), .int .u8 c] w fun e w' => e = .returned .nilIface ∧ (Lib.BuilderAt 123 5 B b (.pointer (some ⟨b, 0, none⟩)) (bs ++ [.int .u8 c]) w' ∧ Below B w w') := by
  obtain ⟨i0, hi, hz0, hz1, hz2⟩ := info_parts byteInf
  go_enter Tryz.func69, Tryz.ntmps69
  go_wp2_with fail
  refine (check_any B b bs _ h).mono ?_
  rintro e w1 ⟨rfl, h1, hb1⟩
  obtain ⟨hB, v, hbk, hown, hne⟩ := h1
  have c0 : w1.cell? ⟨b, 0, none⟩ = some (.pointer (some ⟨b, 0, none⟩)) := cell_of_row _ _ 0 _ _ _ hbk
  have c1 : w1.cell? ⟨b, 1, none⟩ = some v := cell_of_row _ _ 1 _ _ _ hbk
  have hb9 := hb1.size
  have HN := Lib.hid (heap_alloc_new w1 (.cells #[.int .u8 c] 5))
  have HBK := Lib.hid hbk
  have HOW := Lib.hid hown
  have HNE := Lib.hid hne
  have HB1 := Lib.hid hb1
  clear h hbk hown hne hb1
  go_wp2_with (at_builtin; go_loud (refine wpList_append_lies _ rfl _ _ _ rfl B 5 i0 _ 1 1 Tryz.underlying121 hi hz0 hz1 hz2 rfl (by omega) _ _ _ rfl (own_below HOW.out (ba w1 _)) ⟨w1.heap.size, 0, none⟩ 1 1 [.int .u8 c] rfl rfl (fun j u hu => by rw [add_at, Nat.zero_add]; exact (cell_of_row _ _ j _ _ _ HN.out).trans (by simpa using hu)) (fun u hu => by simp at hu; subst hu; rfl) (by omega) (by unfold maxLen; omega) (by omega) (by simp; omega) (w1.heap.size + 1) (by simp) ?_; intro g cap w2 own1 hgrow hat hlt; have hgrow2 : (w1.alloc (.cells #[.int .u8 c] 5)).grownBy w2 v.ownBlock := hgrow; have hltb := block_lt HBK.out; have hb2 : w2.heap[b]? = some (.cells #[.pointer (some ⟨b, 0, none⟩), v] 123 (0, 0)) := (hgrow2.block b (by rw [World.size_alloc]; omega) (fun e => HNE.out e.symm)).trans ((Below.heap_alloc _ _ _ hltb).trans HBK.out); have d0 : w2.cell? ⟨b, 0, none⟩ = some (.pointer (some ⟨b, 0, none⟩)) := cell_of_row _ _ 0 _ _ _ hb2; have d1 : w2.cell? ⟨b, 1, none⟩ = some v := cell_of_row _ _ 1 _ _ _ hb2; have f1 := frozen_row hb2 1))
  have HB2 := Lib.hid hb2
  have HBF : Hid (Below B w (w2.setCell ⟨b, 1, none⟩ (.slice (some ⟨g, 0, none⟩) (bs.length + 1) cap))) := ((HB1.out.alloc (by omega) _).grown hgrow2 (by rw [World.size_alloc]; omega) (fun k hk => (HOW.out.lt k hk).1)).setCell (p := ⟨b, 1, none⟩) hB _
  have hput : (Lib.BuilderAt 123 5 B b (.pointer (some ⟨b, 0, none⟩)) (bs ++ [.int .u8 c]) (w2.setCell ⟨b, 1, none⟩ (.slice (some ⟨g, 0, none⟩) (bs.length + 1) cap))) := Lib.BuilderAt.put (T := 123) (e := 5) hB hb2 (bs' := bs ++ [.int .u8 c]) (by simpa using own1) (by decide)
  have HPUT := Lib.hid hput
  clear hput
  clear own1 hgrow hgrow2 hat hb2 c0 c1
  go_wp2_with fail
  go_ret
  exact ⟨rfl, HPUT.out, HBF.out⟩
set_option maxHeartbeats 2000000 in
set_option maxRecDepth 100000 in
theorem wstr_any (B b : Nat) (bs : List Value) (s : ByteArray) (w : World) (h : Lib.IsBuilder 123 5 B b bs w) (hl : bs.length ≤ 1000) (hs : s.size ≤ 1000) (hBw : B ≤ w.heap.size) :
    Calls Tryz.prog 67 #[.pointer (some ⟨b, 0, none⟩), .string s] w fun e w' => e = .returned (.tuple #[.int .i64 s.size, .nilIface]) ∧ (Lib.BuilderAt 123 5 B b (.pointer (some ⟨b, 0, none⟩)) (bs ++ Lib.strCells s) w' ∧ Below B w w') := by
  obtain ⟨i0, hi, hz0, hz1, hz2⟩ := info_parts byteInf
  go_enter Tryz.func67, Tryz.ntmps67
  go_wp2_with fail
  refine (check_any B b bs _ h).mono ?_
  rintro e w1 ⟨rfl, h1, hb1⟩
  obtain ⟨hB, v, hbk, hown, hne⟩ := h1
  have c0 : w1.cell? ⟨b, 0, none⟩ = some (.pointer (some ⟨b, 0, none⟩)) := cell_of_row _ _ 0 _ _ _ hbk
  have c1 : w1.cell? ⟨b, 1, none⟩ = some v := cell_of_row _ _ 1 _ _ _ hbk
  have hb9 := hb1.size
  have HBK := Lib.hid hbk
  have HOW := Lib.hid hown
  have HNE := Lib.hid hne
  have HB1 := Lib.hid hb1
  clear h hbk hown hne hb1
  go_wp2_with (at_builtin; go_loud (refine Lib.wpList_append_own_string _ rfl _ _ 121 9 rfl B 5 i0 Tryz.underlying121 Tryz.underlying9 hi hz0 hz1 hz2 _ _ _ rfl HOW.out s rfl (by unfold maxLen; omega) (by omega) (by omega) ?_; intro v' w2 own1 hgrow hat; obtain ⟨ao, n', cap, rfl⟩ := slice_of own1; have hgrow2 : w1.grownBy w2 v.ownBlock := hgrow; have hltb := block_lt HBK.out; have hb2 : w2.heap[b]? = some (.cells #[.pointer (some ⟨b, 0, none⟩), v] 123 (0, 0)) := (hgrow2.block b hltb (fun e => HNE.out e.symm)).trans HBK.out; have d0 : w2.cell? ⟨b, 0, none⟩ = some (.pointer (some ⟨b, 0, none⟩)) := cell_of_row _ _ 0 _ _ _ hb2; have d1 : w2.cell? ⟨b, 1, none⟩ = some v := cell_of_row _ _ 1 _ _ _ hb2; have f1 := frozen_row hb2 1))
  have HBF : Hid (Below B w (w2.setCell ⟨b, 1, none⟩ (.slice ao n' cap))) := (HB1.out.grown hgrow2 (by omega) (fun k hk => (HOW.out.lt k hk).1)).setCell (p := ⟨b, 1, none⟩) hB _
  have hput : (Lib.BuilderAt 123 5 B b (.pointer (some ⟨b, 0, none⟩)) (bs ++ Lib.strCells s) (w2.setCell ⟨b, 1, none⟩ (.slice ao n' cap))) := Lib.BuilderAt.put (T := 123) (e := 5) hB hb2 (bs' := bs ++ Lib.strCells s) (by simpa [Lib.strCells_length] using own1) (by decide)
  have HPUT := Lib.hid hput
  clear hput
  clear own1 hgrow hgrow2 hat hb2 c0 c1
  go_wp2_with fail
  go_ret2
  exact ⟨rfl, HPUT.out, HBF.out⟩
theorem itoa_27 (w : World) : Calls Tryz.prog 68 #[iV 27] w fun e w' => e = .returned (.string ⟨[50, 55].toArray⟩) ∧ w = w' := by
  refine (Tryz.strconv_Itoa_small 27 (by decide) w).mono ?_
  rintro e w' ⟨rfl, rfl⟩
  exact ⟨by kernel_rfl, rfl⟩
theorem itoa_9 (w : World) : Calls Tryz.prog 68 #[iV 9] w fun e w' => e = .returned (.string ⟨[57].toArray⟩) ∧ w = w' := by
  refine (Tryz.strconv_Itoa_small 9 (by decide) w).mono ?_
  rintro e w' ⟨rfl, rfl⟩
  exact ⟨by kernel_rfl, rfl⟩
set_option maxHeartbeats 4000000 in
set_option maxRecDepth 100000 in
theorem text_27 (A : Option Addr) (c : Nat) (w : World) (hr : Rd w A [iV 9]) : Calls Tryz.prog 28 #[.agg #[.slice A 1 c, iV 27]] w fun e w' => e = .returned (.string ⟨[50, 55, 32, 57].toArray⟩) ∧ Below w.heap.size w w' := by
  have hcc : ((w.alloc (.cells #[.slice A 1 c, iV 27] 43)).alloc (.cells #[.pointer none, .slice none 0 0] 123)).heap[w.heap.size]? = some (.cells #[.slice A 1 c, iV 27] 43 (0, 0)) := (Below.heap_alloc _ _ _ (by simp)).trans (heap_alloc_new _ _)
  have hcb := heap_alloc_new (w.alloc (.cells #[.slice A 1 c, iV 27] 43)) (.cells #[.pointer none, .slice none 0 0] 123)
  rw [World.size_alloc] at hcb
  have HBD : Hid (Lib.BuilderAt 123 5 (w.heap.size + 1) (w.heap.size + 1) (.pointer none) [] ((w.alloc (.cells #[.slice A 1 c, iV 27] 43)).alloc (.cells #[.pointer none, .slice none 0 0] 123))) := ⟨Nat.le_refl _, .slice none 0 0, hcb, ⟨rfl, .inl ⟨rfl, rfl⟩⟩, by intro e; cases e⟩
  have hb0 := ((Below.refl _ w).alloc (Nat.le_refl _) (.cells #[.slice A 1 c, iV 27] 43)).alloc (by simp) (.cells #[.pointer none, .slice none 0 0] 123)
  have HB0 := Lib.hid hb0
  have HCC := Lib.hid hcc
  have HSZ : Hid (w.heap.size + 2 ≤ ((w.alloc (.cells #[.slice A 1 c, iV 27] 43)).alloc (.cells #[.pointer none, .slice none 0 0] 123)).heap.size) := by show _ ≤ _; simp
  obtain ⟨S, so, hA, hS, hcell⟩ := hr.get (i := 0) (by decide)
  have hs0 := hcell 0 (iV 9) rfl
  have HS0 := Lib.hid hs0
  have HSL := Lib.hid hS
  subst hA
  have k1 : (w.alloc (.cells #[.slice (some ⟨S, so, none⟩) 1 c, iV 27] 43)).cell? ⟨w.heap.size, 1, none⟩ = some (iV 27) := cell_of_row _ _ 1 _ _ _ (heap_alloc_new _ _)
  have k0 : ((w.alloc (.cells #[.slice (some ⟨S, so, none⟩) 1 c, iV 27] 43)).alloc (.cells #[.pointer none, .slice none 0 0] 123)).cell? ⟨w.heap.size, 1, none⟩ = some (iV 27) := cell_of_row _ _ 1 _ _ _ hcc
  clear hr hb0 hcc hcb hcell hs0 hS
  go_enter Tryz.func28, Tryz.ntmps28
  go_wp2_with fail
  refine (itoa_27 _).mono ?_
  rintro e w1 ⟨rfl, rfl⟩
  go_wp2_with fail
  refine (wstr_any (w.heap.size + 1) (w.heap.size + 1) [] ⟨[50, 55].toArray⟩ _ (.inl HBD.out) (by decide) (by decide) (by have := HSZ.out; omega)).mono ?_
  rintro e w1 ⟨rfl, hbd, hb⟩
  have HBD1 := Lib.hid hbd
  have HB1 := Lib.hid (HB0.out.trans (hb.mono (by omega)))
  have HCC1 := Lib.hid ((hb.block _ (by omega)).trans HCC.out)
  have HSZ1 : Hid (w.heap.size + 2 ≤ w1.heap.size) := Nat.le_trans HSZ.out hb.size
  clear k0 k1 hbd hb HBD HB0 HCC HSZ
  have k0 : w1.cell? ⟨w.heap.size, 0, none⟩ = some (.slice (some ⟨S, so, none⟩) 1 c) := cell_of_row _ _ 0 _ _ _ HCC1.out
  have s0 : w1.cell? ⟨S, so, none⟩ = some (iV 9) := by
    have h := (HB1.out.cell (p := ⟨S, so + 0, none⟩) HSL.out).trans HS0.out
    simpa using h
  go_wp2_with fail
  refine wp_loop_rounds 2 ?_
  rw [rounds_succ]
  go_wp2_with fail
  refine (wbyte_any (w.heap.size + 1) (w.heap.size + 1) _ 32 _ (.inr HBD1.out) (by decide) (by have := HSZ1.out; omega)).mono ?_
  rintro e w2 ⟨rfl, hbd, hb⟩
  have HBD2 := Lib.hid hbd
  have HB2 := Lib.hid (HB1.out.trans (hb.mono (by omega)))
  have HSZ2 : Hid (w.heap.size + 2 ≤ w2.heap.size) := Nat.le_trans HSZ1.out hb.size
  clear hbd hb k0 s0 HBD1 HB1 HCC1 HSZ1
  go_wp2_with fail
  refine (itoa_9 _).mono ?_
  rintro e w3 ⟨rfl, rfl⟩
  go_wp2_with fail
  refine (wstr_any (w.heap.size + 1) (w.heap.size + 1) _ ⟨[57].toArray⟩ _ (.inr HBD2.out) (by decide) (by decide) (by have := HSZ2.out; omega)).mono ?_
  rintro e w3 ⟨rfl, hbd, hb⟩
  have HBD3 : Hid (Lib.BuilderAt 123 5 (w.heap.size + 1) (w.heap.size + 1) (.pointer (some ⟨w.heap.size + 1, 0, none⟩)) (Lib.byteCells [50, 55, 32, 57]) w3) := hbd
  have HB3 := Lib.hid (HB2.out.trans (hb.mono (by omega)))
  clear hbd hb HBD2 HB2 HSZ2
  go_wp2_with fail
  rw [rounds_succ]
  go_wp2_with fail
  refine (Tryz.Builder_String (w.heap.size + 1) (w.heap.size + 1) [50, 55, 32, 57] _ (.inr HBD3.out) (by simp)).mono ?_
  rintro e w4 ⟨rfl, hb⟩
  have HB4 := Lib.hid (HB3.out.trans (hb.mono (by omega)))
  clear hb
  go_wp2_with fail
  go_ret
  exact ⟨rfl, HB4.out⟩
end Go.Proofs.YtjpabeoflhkfkaaGreatDoor
