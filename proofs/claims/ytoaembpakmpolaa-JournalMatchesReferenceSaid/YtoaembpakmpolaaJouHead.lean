/-
  The walk over the examples with known results.
-/
import Derived.Test.YtoaembpakmpolaaJouShort
namespace Go.Proofs.Ytoaembpakmpolaa
open Go.RowKit Jou
attribute [local go_sem] ba_get ba_extract ba_append

def exPost : Post := ⟨[82, 82, 52, 55, 51, 49, 50, 52, 56, 50, 57, 65, 65], 1, 2, 0, 600⟩
def exLog : Log := ⟨5, -1, [120], exPost, ⟨1, 0, 2, 0, [67, 49, 46, 52, 56, 48], [[65], [66]]⟩, ⟨[67, 49, 46, 52, 56, 48], 0, 0, 480, 0, 77, 0, 0, [65], 0, [5, 6]⟩, exPost, 9000, 50⟩
/-- A block that is known whole is a row that is read. -/
theorem rd_of_row {w : World} {g : Nat} {xs : List Value} {t : TypeId} {fr : Nat × Nat} (h : w.heap[g]? = some (.cells xs.toArray t fr)) : Rd w (some ⟨g, 0, none⟩) xs :=
  .inr ⟨g, 0, rfl, block_lt h, fun i u hu => by rw [Nat.zero_add, cell_of_row _ _ i _ _ _ h, List.getElem?_toArray]; exact hu⟩
set_option maxHeartbeats 1000000 in
set_option maxRecDepth 100000 in
theorem example_any (w : World) : Calls Try.prog 25 #[] w fun e w' => ∃ AC AP, e = .returned (.agg (logCells exLog AC 2 AP 2)) ∧ Below w.heap.size w w' ∧ Rd w' AC (exLog.rcd.contents.map sV) ∧ Rd w' AP (exLog.paper.path.map iV) ∧ Low w'.heap.size AC ∧ Low w'.heap.size AP := by
  go_enter Try.func25, Try.ntmps25
  go_wp2_with (refine wpList_store_row (by rfl) 37 (.tmp 0) (.tmp 12) (by rfl) w.heap.size (logCells exLog (some ⟨w.heap.size + 1 + 1, 0, none⟩) 2 (some ⟨w.heap.size + 1 + 1 + 1, 0, none⟩) 2) (by rfl) (by rfl) 37 zeroCells ((Below.heap_alloc _ _ _ (by simp; omega)).trans ((Below.heap_alloc _ _ _ (by simp; omega)).trans ((Below.heap_alloc _ _ _ (by simp)).trans (heap_alloc_new _ _)))) lgInf rfl (by simp [logCells, Value.oneCell']) ?_)
  go_wp2
  have hg : ((((w.alloc (.cells zeroCells 37)).alloc (.cells #[sV exPost.label, iV 1, iV 2, iV 0, iV 600] 23)).alloc (.cells #[sV [65], sV [66]] 9)).alloc (.cells #[iV 5, iV 6] 3)).heap[w.heap.size]? = some (.cells zeroCells 37 (0, 0)) := (Below.heap_alloc _ _ _ (by simp; omega)).trans ((Below.heap_alloc _ _ _ (by simp; omega)).trans ((Below.heap_alloc _ _ _ (by simp)).trans (heap_alloc_new _ _)))
  have hrow := setRow_heap _ w.heap.size _ (logCells exLog (some ⟨w.heap.size + 1 + 1, 0, none⟩) 2 (some ⟨w.heap.size + 1 + 1 + 1, 0, none⟩) 2) _ _ hg
  refine bodyPost_ret (v := .agg (logCells exLog (some ⟨w.heap.size + 1 + 1, 0, none⟩) 2 (some ⟨w.heap.size + 1 + 1 + 1, 0, none⟩) 2)) (results_cell_row (p := 0) (ty := 37) rfl _ _ w.heap.size 37 _ (0, 0) _ ?_ hrow Try.underlying37 rfl lgInf) rfl ?_
  · rfl
  have hb : Below w.heap.size w ((((w.alloc (.cells zeroCells 37)).alloc (.cells #[sV exPost.label, iV 1, iV 2, iV 0, iV 600] 23)).alloc (.cells #[sV [65], sV [66]] 9)).alloc (.cells #[iV 5, iV 6] 3)) := (((((Below.refl _ w).alloc (Nat.le_refl _) _).alloc (by simp) _).alloc (by simp; omega) _).alloc (by simp; omega) _)
  have r1 : ((((w.alloc (.cells zeroCells 37)).alloc (.cells #[sV exPost.label, iV 1, iV 2, iV 0, iV 600] 23)).alloc (.cells #[sV [65], sV [66]] 9)).alloc (.cells #[iV 5, iV 6] 3)).heap[w.heap.size + 1 + 1]? = some (.cells #[sV [65], sV [66]] 9 (0, 0)) := (Below.heap_alloc _ _ _ (by simp)).trans (by
    have := heap_alloc_new ((w.alloc (.cells zeroCells 37)).alloc (.cells #[sV exPost.label, iV 1, iV 2, iV 0, iV 600] 23)) (.cells #[sV [65], sV [66]] 9)
    simpa only [World.size_alloc] using this)
  have r2 : ((((w.alloc (.cells zeroCells 37)).alloc (.cells #[sV exPost.label, iV 1, iV 2, iV 0, iV 600] 23)).alloc (.cells #[sV [65], sV [66]] 9)).alloc (.cells #[iV 5, iV 6] 3)).heap[w.heap.size + 1 + 1 + 1]? = some (.cells #[iV 5, iV 6] 3 (0, 0)) := by
    have := heap_alloc_new (((w.alloc (.cells zeroCells 37)).alloc (.cells #[sV exPost.label, iV 1, iV 2, iV 0, iV 600] 23)).alloc (.cells #[sV [65], sV [66]] 9)) (.cells #[iV 5, iV 6] 3)
    simpa only [World.size_alloc] using this
  refine ⟨_, _, rfl, ⟨hb.os, hb.tape, hb.output, by rw [setRow_size]; exact hb.size, fun i hi => (setRow_other _ _ _ _ (by omega)).trans (hb.block i hi)⟩, rd_row (rd_of_row r1) (fun a ha => by cases ha; show w.heap.size + 1 + 1 ≠ w.heap.size; omega) _, rd_row (rd_of_row r2) (fun a ha => by cases ha; show w.heap.size + 1 + 1 + 1 ≠ w.heap.size; omega) _, fun a ha => by cases ha; rw [setRow_size]; exact block_lt r1, fun a ha => by cases ha; rw [setRow_size]; exact block_lt r2⟩
end Go.Proofs.Ytoaembpakmpolaa
