/-
  Rows in blocks of their own, and one number of them set (as in the walk over WarrantSeals).
-/
import Derived.Test.YtjpabeoflhkfkaaGreatDoorPr
namespace Go.Proofs.YtjpabeoflhkfkaaGreatDoor
open Go.RowKit

theorem own_rd {base : Nat} {W : World} {v : Value} {k : Nat} {xs : List Value} {e : TypeId} {s : Nat} (h : W.ownsRow base e s v k xs) (hk : 0 < k) : ∃ g cap, v = .slice (some ⟨g, 0, none⟩) k cap ∧ base ≤ g ∧ g < W.heap.size ∧ Rd W (some ⟨g, 0, none⟩) xs ∧ ∃ cs, W.heap[g]? = some (.cells cs e (0, 0)) := by
  rcases h.2 with ⟨-, h0⟩ | ⟨g, cap, cur, rfl, h1, h2, -⟩
  · omega
  · exact ⟨g, cap, rfl, h1, block_lt h2, rd_own h, cur, h2⟩
theorem rd_set {w : World} {g i : Nat} {xs : List Int} {v : Int} (h : Rd w (some ⟨g, 0, none⟩) (xs.map iV)) (hi : i < xs.length) : Rd (w.setCell ⟨g, i, none⟩ (iV v)) (some ⟨g, 0, none⟩) ((xs.set i v).map iV) := by
  obtain ⟨b, o, hA, hb, hc⟩ := h.get (i := i) (by simpa using hi)
  cases hA
  refine .inr ⟨g, 0, rfl, by simpa using hb, fun j u hu => ?_⟩
  rw [List.getElem?_map, List.getElem?_set] at hu
  rw [Nat.zero_add]
  by_cases hij : i = j
  · subst hij
    rw [if_pos rfl, if_pos hi] at hu
    cases Option.some.inj hu
    obtain ⟨x, hx⟩ : ∃ x, xs[i]? = some x := ⟨_, List.getElem?_eq_getElem hi⟩
    have := hc i (iV x) (by rw [List.getElem?_map, hx]; rfl)
    rw [Nat.zero_add] at this
    exact World.cell?_setCell_same' _ _ _ (by rw [this]; rfl)
  · rw [if_neg hij] at hu
    have := hc j u (by rw [List.getElem?_map]; exact hu)
    rw [Nat.zero_add] at this
    rw [World.cell?_setCell_other _ _ _ _ (by simp <;> omega)]
    exact this
end Go.Proofs.YtjpabeoflhkfkaaGreatDoor
