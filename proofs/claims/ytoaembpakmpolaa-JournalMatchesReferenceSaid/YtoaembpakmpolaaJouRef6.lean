/-
  The walks over the reference's frames.
-/
import Derived.Test.YtoaembpakmpolaaJouRefT
import Derived.Test.YtoaembpakmpolaaJouRef1
namespace Go.Proofs.Ytoaembpakmpolaa
open Go.RowKit Jou
attribute [local go_sem] ba_get ba_extract ba_append

theorem abM_lt (l : List UInt8) (k : Nat) (hk : k ≤ l.length) : (abM (l.take k)).1 < 65521 ∧ (abM (l.take k)).2 < 65521 := by
  rw [abM_eq l k hk]; simp only; omega
set_option maxHeartbeats 2000000 in
set_option maxRecDepth 100000 in
theorem fsum_any (l : List UInt8) (A : Option Addr) (c : Nat) (w : World) (hA : Rd w A (l.map bV)) (hl : l.length ≤ 100000) :
    Calls Try.prog 68 #[.slice A l.length c] w (OwnB w (csum l)) := by
  obtain ⟨i0, hi0, hz0, hz1, hz2⟩ := info_parts byteInf
  have HA := Lib.hid hA; clear hA
  have HC := Lib.hid (abM_csum l)
  go_enter Try.func68, Try.ntmps68
  go_wp2
  go_loopw [3, 4, 5] (fun x y i wr => w = wr ∧ ∃ k : Nat, k ≤ l.length ∧ i = iV k ∧ x = iV (abM (l.take k)).1 ∧ y = iV (abM (l.take k)).2) (fun _ _ i _ => l.length - (intOf i).toNat)
  case atStart => exact ⟨rfl, 0, Nat.zero_le _, rfl, rfl, rfl⟩
  case round =>
    obtain ⟨rfl, k, hk, rfl, rfl, rfl⟩ := hrel
    obtain ⟨h1, h2⟩ := abM_lt l k hk
    by_cases hlt : k < l.length
    · obtain ⟨b, off, rfl, hb, hc⟩ := HA.out.get (i := k) (by simpa using hlt)
      have k1 : w.cell? ⟨b, off + k, none⟩ = some (bV l[k]) := hc k _ (by simp [hlt])
      clear hc
      have HT := Lib.hid (abM_take l k hlt)
      have hx := UInt8.toNat_lt l[k]
      generalize l[k] = x at *
      generalize abM (l.take k) = ab at *
      have i1 : (0 : Int) ≤ (k : Int) := by omega
      have i2 : (k : Int) < (l.length : Int) := by omega
      have i3 : (x.toNat : Int) < 256 := by omega
      have i4 : (0 : Int) ≤ (x.toNat : Int) := by omega
      go_wp2
      go_roundw
      case rel => exact ⟨trivial, k + 1, by omega, by go_num, by rw [HT.out]; simp, by rw [HT.out]; simp⟩
      case measure => simp [intOf]; omega
    · obtain rfl : k = l.length := by omega
      rw [List.take_length] at *
      generalize abM l = ab at *
      go_wp2_with fail
      refine (flength_any _ _ (by unfold maxLen; omega)).mono ?_
      rintro e w3 ⟨A3, c3, rfl, hown3, hb3⟩
      have HO3 := Lib.hid hown3; clear hown3
      have HB3 := Lib.hid hb3; clear hb3
      go_wp2_with fail
      refine (flength_any _ _ (by unfold maxLen; omega)).mono ?_
      rintro e w4 ⟨A4, c4, rfl, hown4, hb4⟩
      have HO4 := Lib.hid hown4; clear hown4
      have HB4 := Lib.hid hb4; clear hb4
      go_wp2_with (at_builtin; go_must (refine wpList_app (by rfl) (.tmp 25) (.tmp 27) _ _ (by rfl) w.heap.size 5 i0 _ 1 1 Try.underlying38 hi0 hz0 hz1 hz2 (by rfl) _ 2 _ (by rfl) (own_below HO3.out HB4.out) _ (by rfl) 2 ((lenB ab.1).map bV) (src_rd Try.underlying38 (own_rd HO4.out) (by rfl) (one_b _)) (by unfold maxLen; omega) (by omega) (by have := HB3.out.size; have := HB4.out.size; omega) ?_); intro A5 c5 w5 hown5 hgrow5 _; have HO5 := Lib.hid hown5; have HB5 := Lib.hid (app_below (bt HB3.out HB4.out) (Nat.le_refl _) (own_below HO3.out HB4.out) (Nat.le_refl _) hgrow5); clear hown5 hgrow5)
      go_ret
      refine ⟨A5, c5, rfl, ?_, HB5.out⟩
      rw [HC.out, List.map_append]
      exact HO5.out
end Go.Proofs.Ytoaembpakmpolaa
