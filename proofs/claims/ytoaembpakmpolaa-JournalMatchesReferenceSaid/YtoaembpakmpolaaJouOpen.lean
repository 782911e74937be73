/-
  Lists of records that come in.
-/
import Derived.Test.YtoaembpakmpolaaJouCard
namespace Go.Proofs.Ytoaembpakmpolaa
open Go.ChangeShapes Go.WideShapes Go.ChangeAt Go.RowKit Go.WideMaps Go.WideElems

theorem cellsSl : Try.prog.cellsOf 38 = 1 := by kernel_rfl
theorem cell_lt {W : World} {a : Addr} {v : Value} (h : W.cell? a = some v) : a.spot = none ∧ a.block < W.heap.size := by
  unfold World.cell? at h
  split at h
  · rename_i hb
    split at h
    · cases h
    · rename_i hs
      exact ⟨by cases ha : a.spot <;> simp_all, (Array.getElem?_eq_some_iff.1 hb).1⟩
  · cases h
/-- A slice of bytes that lies in a cell. -/
def RowOf (W : World) (r : Sl) : Prop := Rd W r.1 (r.2.2.map bV) ∧ r.2.2.length ≤ r.2.1 ∧ r.2.1 ≤ maxLen ∧ (1 ≤ r.2.2.length → Low W.heap.size r.1)
set_option maxRecDepth 100000 in
theorem row_of {H : Type} {enc : TypeId × Value → H} {W : World} {v : Value} {fuel : Nat} {x : DataW H × List MemPlace} (hf : DataW.trod enc Try.prog W 0 (fun _ => true) true fuel 38 [v] = some x) : ∃ r : Sl, v = slV r ∧ RowOf W r := by
  rcases Deep.open_slice1 Try.underlying38 cellsByte hf with ⟨hcs, hx⟩ | ⟨a, len, cap, m, n, V, D, Pl, hcs, _, hl, hm, hmm, hx, hc⟩
  · obtain rfl : v = _ := by simpa using hcs
    exact ⟨(none, 0, []), rfl, Rd.nil _ _, Nat.le_refl _, Nat.zero_le _, fun h => by simp at h⟩
  · obtain rfl : v = _ := by simpa using hcs
    simp at hmm
    subst hmm
    by_cases hz : len = 0
    · subst hz
      exact ⟨(some a, m, []), rfl, Rd.nil _ _, Nat.zero_le _, hm, fun h => by simp at h⟩
    obtain ⟨bl, off, sp⟩ := a
    have h0 := cell_lt (hc 0 (by omega)).1
    rw [show (Addr.add ⟨bl, off, sp⟩ 0) = ⟨bl, off, sp⟩ from rfl] at h0
    obtain ⟨hs, hb⟩ := h0
    simp only at hs hb
    subst hs
    have hV : ∀ i, i < len → V i = bV (UInt8.ofNat (intOf (V i)).toNat) ∧ W.cell? ⟨bl, off + i, none⟩ = some (V i) := by
      intro i hi
      obtain ⟨h1, h2⟩ := hc i (by omega)
      obtain ⟨z, hz, _, hw⟩ := DataW.trod_int Try.underlying5 h2
      rw [add_at] at h1
      refine ⟨?_, h1⟩
      have : V i = .int .u8 z := by simpa using hz
      rw [this]
      have hz2 := bounds_u8 hw
      simp only [intOf, bV, UInt8.toNat_ofNat']
      congr 1
      omega
    refine ⟨(some ⟨bl, off, none⟩, m, (List.range len).map fun i => UInt8.ofNat (intOf (V i)).toNat), by simp [slV], .inr ⟨bl, off, rfl, hb, fun i u hu => ?_⟩, by simpa using hl, hm, fun _ a ha => by cases ha; exact hb⟩
    rw [List.map_map, List.getElem?_map] at hu
    cases hr : (List.range len)[i]? with
    | none => rw [hr] at hu; cases hu
    | some k =>
      have hk : k = i ∧ i < len := by
        rw [List.getElem?_eq_some_iff] at hr
        obtain ⟨h1, h2⟩ := hr
        simp at h1 h2
        exact ⟨h2.symm, h1⟩
      obtain ⟨rfl, hi⟩ := hk
      rw [hr] at hu
      cases hu
      rw [(hV k hi).2, (hV k hi).1]
      simp
/-- A list of records that came in. -/
def Rows0 (W : World) (A : Option Addr) (c : Nat) (rows : List Sl) : Prop := Rd W A (rows.map slV) ∧ Low W.heap.size A ∧ rows.length ≤ c ∧ c ≤ maxLen ∧ ∀ r ∈ rows, RowOf W r
theorem Rows0.below {w w' : World} {A : Option Addr} {c : Nat} {l : List Sl} (h : Rows0 w A c l) (hb : Below w.heap.size w w') : Rows0 w' A c l :=
  ⟨h.1.below hb, h.2.1.mono hb.size, h.2.2.1, h.2.2.2.1, fun r hr => ⟨(h.2.2.2.2 r hr).1.below hb, (h.2.2.2.2 r hr).2.1, (h.2.2.2.2 r hr).2.2.1, fun h1 => ((h.2.2.2.2 r hr).2.2.2 h1).mono hb.size⟩⟩
theorem rows_choose (W : World) : ∀ (n : Nat) (V : Nat → Value), (∀ i, i < n → ∃ r : Sl, V i = slV r ∧ RowOf W r) → ∃ rows : List Sl, rows.length = n ∧ (∀ i (h : i < rows.length), V i = slV rows[i]) ∧ ∀ r ∈ rows, RowOf W r
  | 0, _, _ => ⟨[], rfl, fun i h => by simp at h, fun r hr => by cases hr⟩
  | n + 1, V, h => by
    obtain ⟨rows, h1, h2, h3⟩ := rows_choose W n V (fun i hi => h i (by omega))
    obtain ⟨r, hr1, hr2⟩ := h n (by omega)
    refine ⟨rows ++ [r], by simp [h1], fun i hi => ?_, fun x hx => ?_⟩
    · by_cases hin : i < rows.length
      · rw [List.getElem_append_left hin]; exact h2 i hin
      · have : i = rows.length := by simp at hi; omega
        subst this
        rw [List.getElem_append_right (Nat.le_refl _)]
        simpa [h1] using hr1
    · rcases List.mem_append.1 hx with hx | hx
      · exact h3 x hx
      · rw [List.mem_singleton.1 hx]; exact hr2
set_option maxRecDepth 100000 in
theorem open_rows {H : Type} {enc : TypeId × Value → H} {W : World} {base : Nat} {v : Value} {d : DataW H} {ps : List MemPlace} (hval : Value.okWide Try.prog W .any base 46 v) (h : DataW.Trod enc Try.prog W 0 (fun _ => true) true 46 v d ps) :
    ∃ A c rows, v = .slice A (List.length rows) c ∧ Rows0 W A c rows := by
  obtain ⟨A, len, cap, rfl⟩ := okWide_slice Try.underlying46 hval
  obtain ⟨fuel, hf⟩ := h
  rcases Deep.open_slice1 Try.underlying46 cellsSl hf with ⟨hcs, hx⟩ | ⟨a, len', cap', m, n, V, D, Pl, hcs, _, hl, hm, hmm, hx, hc⟩
  · simp [Value.cells] at hcs
    obtain ⟨rfl, rfl, rfl⟩ := hcs
    exact ⟨none, 0, [], rfl, Rd.nil _ _, fun a ha => (by cases ha), Nat.le_refl _, Nat.zero_le _, fun r hr => by cases hr⟩
  · simp [Value.cells] at hcs
    obtain ⟨rfl, rfl, rfl⟩ := hcs
    obtain ⟨hs, hb⟩ := slice_there Try.underlying46 hval
    obtain ⟨bl, off, sp⟩ := a
    simp only at hs hb
    subst hs
    simp at hmm
    subst hmm
    obtain ⟨rows, h1, h2, h3⟩ := rows_choose W len V (fun i hi => row_of (hc i (by omega)).2)
    refine ⟨some ⟨bl, off, none⟩, m, rows, by rw [h1], .inr ⟨bl, off, rfl, hb, fun i u hu => ?_⟩, fun a ha => (by cases ha; exact hb), by omega, hm, h3⟩
    rw [List.getElem?_map] at hu
    cases hr : rows[i]? with
    | none => rw [hr] at hu; cases hu
    | some k =>
      rw [hr] at hu
      cases hu
      obtain ⟨hi, hk⟩ := List.getElem?_eq_some_iff.1 hr
      have h5 := (hc i (by omega)).1
      rw [add_at] at h5
      rw [h5, h2 i hi, hk]
end Go.Proofs.Ytoaembpakmpolaa
