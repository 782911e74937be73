/-
  Working days and first departures in plain Lean.
-/
import Derived.Test.YtpeaiphdkgifaaaGreatDoorTimDays
namespace Go.Proofs.YtpeaiphdkgifaaaGreatDoor
open Go.RowKit
set_option maxHeartbeats 20000000
set_option maxRecDepth 100000
theorem wdays_mem (c : Cal) : ∀ (n : Nat) (d x : Int), x ∈ wdays c n d ↔ d <= x /\ x < d + n /\ workB c x = true
 | 0, d, x => by simp [wdays]; omega
 | n + 1, d, x => by
  rw [wdays, List.mem_append, wdays_mem c n]
  by_cases hw : workB c d = true
  ·rw [if_pos hw, List.mem_singleton]
   constructor
   ·rintro (rfl | ⟨a, b, e⟩)
    ·exact ⟨Int.le_refl _, by omega, hw⟩
    ·exact ⟨by omega, by omega, e⟩
   ·rintro ⟨a, b, e⟩
    by_cases hx : x = d
    ·exact .inl hx
    ·exact .inr ⟨by omega, by omega, e⟩
  ·rw [if_neg hw]
   constructor
   ·rintro (h | ⟨a, b, e⟩)
    ·cases h
    ·exact ⟨by omega, by omega, e⟩
   ·rintro ⟨a, b, e⟩
    by_cases hx : x = d
    ·subst hx; exact absurd e hw
    ·exact .inr ⟨by omega, by omega, e⟩
theorem wdays_sorted (c : Cal) : ∀ (n : Nat) (d : Int), (wdays c n d).Pairwise (· < ·)
 | 0, _ => List.Pairwise.nil
 | n + 1, d => by
  rw [wdays, List.pairwise_append]
  refine ⟨by split <;> simp, wdays_sorted c n (d + 1), fun a ha b hb => ?_⟩
  have h1 := (wdays_mem c n (d + 1) b).1 hb
  split at ha
  ·rw [List.mem_singleton] at ha
   omega
  ·cases ha
theorem part_mem {c : Cal} {n : Nat} {d x y : Int} {pre tl : List Int} (h : wdays c n d = pre ++ [x] ++ tl) (h1 : d <= y) (h2 : y < x) (hw : workB c y = true) : y ∈ pre := by
 have hx : x ∈ wdays c n d := by rw [h]; simp
 have hxr := (wdays_mem c n d x).1 hx
 have hy : y ∈ wdays c n d := (wdays_mem c n d y).2 ⟨h1, by omega, hw⟩
 have hs := wdays_sorted c n d
 rw [h] at hy hs
 rw [List.pairwise_append] at hs
 rcases List.mem_append.1 hy with hy | hy
 ·rcases List.mem_append.1 hy with hy | hy
  ·exact hy
  ·rw [List.mem_singleton] at hy
   omega
 ·have := hs.2.2 x (by simp) y hy
  omega
theorem tim_none {c : Cal} {m t : Int} (h1 : 0 <= m) (h2 : m < 1440) (hall : ∀ D, dayOf c t <= D -> D < dayOf c t + 61 -> workB c D = true -> timeOf c D m < t ∨ t + 86400 <= timeOf c D m) : firstR c m t = (0, 20) := by
 by_cases h : (firstR c m t).2 = 0
 ·exfalso
  obtain ⟨D, hx, hw, hle, -, g1, g2⟩ := firstR_day h1 h2 (firstR_ok h)
  rw [hx] at hle
  have hfd : dayOf c t <= firstDay c m t /\ firstDay c m t <= dayOf c t + 1 := by unfold firstDay; split <;> omega
  have hlt : ¬ t <= timeOf c (firstDay c m t - 1) m := fun e => by have := (firstDay_le (c := c) h1 h2).2 e; omega
  rcases hall D (by omega) (by omega) hw with e | e
  ·omega
  ·unfold timeOf at e hlt
   omega
 ·exact firstR_err h
theorem tim_some {c : Cal} {m t x : Int} (h1 : 0 <= m) (h2 : m < 1440) (hw : workB c x = true) (hx1 : t <= timeOf c x m) (hx2 : timeOf c x m < t + 86400) (hall : ∀ D, dayOf c t <= D -> D < x -> workB c D = true -> timeOf c D m < t) : firstR c m t = (timeOf c x m, 0) := by
 have hf := (firstDay_le (c := c) h1 h2).2 hx1
 have hfd : dayOf c t <= firstDay c m t := by unfold firstDay; split <;> omega
 have hlo := (firstDay_le (c := c) (t := t) h1 h2).1 (Int.le_refl (firstDay c m t))
 have hxl : x < firstDay c m t + 60 := by unfold timeOf at hx2 hlo; omega
 rcases firstR_cases c m t with ⟨D, hD, h3⟩ | ⟨hD, h3⟩
 ·obtain ⟨g1, g2, g3, g4⟩ := nextW_some hD
  rw [h3]
  rcases Int.lt_or_le D x with h | h
  ·have h5 := hall D (by omega) h g3
   have h6 := (firstDay_le (c := c) (t := t) h1 h2).1 g1
   omega
  ·rcases Int.lt_or_le x D with h' | h'
   ·have := g4 x hf h'
    rw [hw] at this
    cases this
   ·rw [show D = x by omega]
 ·have := nextW_none hD x hf (by omega)
  rw [hw] at this
  cases this
end Go.Proofs.YtpeaiphdkgifaaaGreatDoor
