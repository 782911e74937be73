/- Working days and first departures in plain Lean. -/
import Derived.Test.YtpeaiphdkgifaaaGreatDoorVqTimDays
namespace Go.Proofs.YtpeaiphdkgifaaaGreatDoor
open Go.RowKit
set_option maxHeartbeats 20000000
set_option maxRecDepth 100000
theorem gM (c : Cal) : ∀ (n : Nat) (d x : Int), x ∈ bY c n d ↔ d <= x /\ x < d + n /\ cz c x = true
 | 0, d, x => by simp [bY]; omega
 | n + 1, d, x => by
  rw [bY, List.mem_append, gM c n]
  by_cases hw : cz c d = true
  ·rw [if_pos hw, aR]
   constructor
   ·rintro (rfl | ⟨a, b, e⟩)
    ·exact ⟨Int.le_refl _, by omega, hw⟩
    ·exact ⟨by omega, by omega, e⟩
   ·rintro ⟨a, b, e⟩
    by_cases hx : x = d
    ·exact .inl hx
    ·exact .inr ⟨by omega, by omega, e⟩
  ·rw [if_neg hw]
   constructor
   ·rintro (h | ⟨a, b, e⟩)
    ·cases h
    ·exact ⟨by omega, by omega, e⟩
   ·rintro ⟨a, b, e⟩
    by_cases hx : x = d
    ·subst hx; exact absurd e hw
    ·exact .inr ⟨by omega, by omega, e⟩
theorem ka (c : Cal) : ∀ (n : Nat) (d : Int), (bY c n d).Pairwise (· < ·)
 | 0, _ => List.Pairwise.nil
 | n + 1, d => by
  rw [bY, List.pairwise_append]
  refine ⟨by split <;> simp, ka c n (d + 1), fun a ha b hb => ?_⟩
  have h1 := (gM c n (d + 1) b).1 hb
  split at ha
  ·rw [aR] at ha
   omega
  ·cases ha
theorem pN {c : Cal} {n : Nat} {d x y : Int} {pre tl : List Int} (h : bY c n d = pre ++ [x] ++ tl) (h1 : d <= y) (h2 : y < x) (hw : cz c y = true) : y ∈ pre := by
 have hx : x ∈ bY c n d := by rw [h]; simp
 have hxr := (gM c n d x).1 hx
 have hy : y ∈ bY c n d := (gM c n d y).2 ⟨h1, by omega, hw⟩
 have hs := ka c n d
 rw [h] at hy hs
 rw [List.pairwise_append] at hs
 rcases List.mem_append.1 hy with hy | hy
 ·rcases List.mem_append.1 hy with hy | hy
  ·exact hy
  ·rw [aR] at hy
   omega
 ·have := hs.2.2 x (by simp) y hy
  omega
theorem py {c : Cal} {m t : Int} (h1 : 0 <= m) (h2 : m < 1440) (hall : ∀ D, bc c t <= D -> D < bc c t + 61 -> cz c D = true -> be c D m < t ∨ t + 86400 <= be c D m) : ak c m t = (0, 20) := by
 by_cases h : (ak c m t).2 = 0
 ·exfalso
  obtain ⟨D, hx, hw, hle, -, g1, g2⟩ := fo h1 h2 (cU h)
  rw [hx] at hle
  have hfd : bc c t <= bm c m t /\ bm c m t <= bc c t + 1 := by unfold bm; split <;> omega
  have hlt : ¬ t <= be c (bm c m t - 1) m := fun e => by have := (cg (c := c) h1 h2).2 e; omega
  rcases hall D (by omega) (by omega) hw with e | e
  ·omega
  ·unfold be at e hlt
   omega
 ·exact jW h
theorem uX {c : Cal} {m t x : Int} (h1 : 0 <= m) (h2 : m < 1440) (hw : cz c x = true) (hx1 : t <= be c x m) (hx2 : be c x m < t + 86400) (hall : ∀ D, bc c t <= D -> D < x -> cz c D = true -> be c D m < t) : ak c m t = (be c x m, 0) := by
 have hf := (cg (c := c) h1 h2).2 hx1
 have hfd : bc c t <= bm c m t := by unfold bm; split <;> omega
 have hlo := (cg (c := c) (t := t) h1 h2).1 (Int.le_refl (bm c m t))
 have hxl : x < bm c m t + 60 := by unfold be at hx2 hlo; omega
 rcases eQ c m t with ⟨D, hD, h3⟩ | ⟨hD, h3⟩
 ·obtain ⟨g1, g2, g3, g4⟩ := dK hD
  rw [h3]
  rcases Int.lt_or_le D x with h | h
  ·have h5 := hall D (by omega) h g3
   have h6 := (cg (c := c) (t := t) h1 h2).1 g1
   omega
  ·rcases Int.lt_or_le x D with h' | h'
   ·have := g4 x hf h'
    rw [hw] at this
    cases this
   ·rw [show D = x by omega]
 ·have := iu hD x hf (by omega)
  rw [hw] at this
  cases this
end Go.Proofs.YtpeaiphdkgifaaaGreatDoor
