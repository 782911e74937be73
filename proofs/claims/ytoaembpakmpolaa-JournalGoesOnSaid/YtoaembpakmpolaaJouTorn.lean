/-
  How many records are whole: the loop of the laws in plain Lean.
-/
import Derived.Test.YtoaembpakmpolaaJouFew
namespace Go.Proofs.Ytoaembpakmpolaa
open Go.RowKit
namespace Jou
theorem offs_take (ls : List (List UInt8)) (k : Nat) : offs (ls.take k) (ls.take k).length = offs ls k := by
  unfold offs
  rw [List.take_length]
theorem offs_le_len (ls : List (List UInt8)) (k : Nat) : offs ls k ≤ (frs ls).length := by
  rw [← offs_all]
  unfold offs
  rw [List.take_length]
  have : ls = ls.take k ++ ls.drop k := (List.take_append_drop k ls).symm
  have e : ((ls.map fun r => 8 + r.length)).sum = (((ls.take k).map fun r => 8 + r.length)).sum + (((ls.drop k).map fun r => 8 + r.length)).sum := by
    rw [← List.sum_append, ← List.map_append, List.take_append_drop]
  omega
theorem whole_stop (ls : List (List UInt8)) (n k : Nat) (hk : k ≤ ls.length) (ho : offs ls k ≤ n) (h : ∀ hk : k < ls.length, n < offs ls k + ls[k].length + 8) : whole ls n = k := by
  rw [whole_step ls n k hk ho]
  by_cases hlt : k < ls.length
  · have := h hlt
    rw [List.drop_eq_getElem_cons hlt]
    unfold whole
    rw [if_neg (by omega)]
    rfl
  · rw [List.drop_eq_nil_of_le (by omega)]
    rfl
theorem torn (ls : List (List UInt8)) (hg : ∀ b ∈ ls, Good b) (hl : ls.length ≤ 500) (n : Nat) : recs ((frs ls).take n) = ls.take (whole ls n) := recs_torn ls hg 500 n hl
theorem damaged (ls : List (List UInt8)) (hg : ∀ b ∈ ls, Good b) (hl : ls.length ≤ 500) (n : Nat) (hn : n < (frs ls).length) (v : UInt8) (hv : v ≠ (frs ls)[n]) : recs ((frs ls).set n v) = ls.take (whole ls n) := recs_damage ls hg 500 n hn v hv hl
end Jou
open Jou
theorem Fit.take {w : World} {A : Option Addr} {c : Nat} {rows : List Sl} (h : Fit w A c rows) (k : Nat) : Fit w A c (rows.take k) := by
  obtain ⟨⟨h1, h2, h3, h4, h5⟩, h6, h7⟩ := h
  exact ⟨⟨by rw [List.map_take]; exact h1.take k, h2, by rw [List.length_take]; omega, h4, fun r hr => h5 r (List.mem_of_mem_take hr)⟩, fun r hr => h6 r (List.mem_of_mem_take hr), by rw [List.length_take]; omega⟩
theorem fit_of {w : World} {A : Option Addr} {c : Nat} {rows : List Sl} (h : Rows0 w A c rows) (hf : fewB rows = true) : Fit w A c rows := ⟨h, (few_all hf).1, by have := (few_all hf).2; omega⟩
end Go.Proofs.Ytoaembpakmpolaa
