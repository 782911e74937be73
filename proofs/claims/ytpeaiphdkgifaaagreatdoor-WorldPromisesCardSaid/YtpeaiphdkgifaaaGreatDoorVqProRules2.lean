/- The walks over check's second rule. -/
import Derived.Test.YtpeaiphdkgifaaaGreatDoorVad
namespace Go.Proofs.YtpeaiphdkgifaaaGreatDoor
open Go.RowKit
set_option maxHeartbeats 20000000
set_option maxRecDepth 100000
def bS (nm : Nat -> List UInt8) (i : Nat) : Bool := (List.range i).all fun j => nm j != nm i
theorem tn (f : FuncId) (cb : Array Value) (nm : Nat -> List UInt8) (cnt i P : Nat) (w : World) (hf : fd f cb nm cnt w) (hi : i < cnt) (hc : cnt <= maxLen) (hp : w.cell? (aV P 0) = some (.func (.func f) #[] cb)) (eg : ∀ args w, (callFunc f args).run Tryz.prog w = .ok (.enter f args) w) :
  Calls Tryz.prog 154 #[iV i, .pointer (some (aV P 0))] w fun e w' => (∃ x : Int, e = .returned (iV x) /\ (x = 0 ↔ bS nm i = true)) /\ Below w.heap.size w w' := by
 unfold maxLen at hc
 have HF := aB hf; clear hf
 have hPl := aM w _ hp
 go_enter Tryz.func154, Tryz.ntmps154
 go_wp2
 go_loopw [6] (fun v wr => ∃ k : Nat, k <= i /\ v = iV k /\ Hid (Below w.heap.size w wr) /\ Hid (∀ j < k, nm j ≠ nm i)) (fun v _ => i + 1 - (intOf v).toNat)
 case atStart => exact ⟨0, by omega, rfl, aJ _ _, fun j h => by omega⟩
 case round =>
  obtain ⟨k, hk, rfl, HB, HQ⟩ := hrel
  have m0 : (0 : Int) <= (k : Int) := by omega
  by_cases hlt : k < i
  ·have m1 : (k : Int) < (i : Int) := by omega
   have hp2 := (HB.out.cell (p := (aV P 0)) hPl).trans hp
   have HP2 := aB hp2
   go_upto_region 4 with fail
   go_region_with (first
    | (refine (HF.out k (by omega) _ (al HB.out)).mono ?_; rintro e w2 ⟨rfl, hb⟩; have HB2 := aB (bt (al HB.out) hb); have hp3 := (HB2.out.cell (p := (aV P 0)) hPl).trans hp; clear hb)
    | (refine (HF.out i (by omega) _ (al HB.out)).mono ?_; rintro e w2 ⟨rfl, hb⟩; have HB2 := aB (bt (al HB.out) hb); have hp3 := (HB2.out.cell (p := (aV P 0)) hPl).trans hp; clear hb)
    | (refine (HF.out k (by omega) _ HB2.out).mono ?_; rintro e w3 ⟨rfl, hb⟩; have HB3 := aB (bt HB2.out hb); clear hb)
    | (refine (HF.out i (by omega) _ HB2.out).mono ?_; rintro e w3 ⟨rfl, hb⟩; have HB3 := aB (bt HB2.out hb); clear hb))
   all_goals
    have hx0 : (nm k == nm i) = decide (nm k = nm i) := by by_cases h : nm k = nm i <;> simp [h]
    by_cases hx : nm k = nm i
    ·have hx1 : (nm k == nm i) = true := by simpa using hx
     have HR : Hid (bS nm i = false) := by
      show _ = _
      rw [Bool.eq_false_iff]
      intro h
      have := List.all_eq_true.1 h k (List.mem_range.2 hlt)
      simp [hx] at this
     rw [hx1]
     clear hx0 hx hx1
     go_wp2_with fail
     go_ret
     exact ⟨⟨4, rfl, by simp [HR.out]⟩, HB3.out⟩
    ·have hx1 : (nm k == nm i) = false := by simpa using hx
     have HN : Hid (∀ j < k + 1, nm j ≠ nm i) := fun j hj => by
      rcases Nat.lt_or_ge j k with h | h
      ·exact HQ.out j h
      ·obtain rfl : j = k := by omega
       exact hx
     rw [hx1]
     clear hx0 hx hx1
     go_wp2_with fail
     go_roundw
     case rel => exact ⟨k + 1, by omega, by go_num, HB3.out, HN.out⟩
     case measure => simp [intOf]; omega
  ·have m1 : ¬ (k : Int) < (i : Int) := by omega
   have HR : Hid (bS nm i = true) := by
    show _ = _
    unfold bS
    rw [List.all_eq_true]
    intro j hj
    have := HQ.out j (by have := List.mem_range.1 hj; omega)
    simpa using this
   go_wp2
   go_ret
   exact ⟨⟨0, rfl, by simp [HR.out]⟩, HB.out⟩
theorem vn (f : FuncId) (cb : Array Value) (nm : Nat -> List UInt8) (cnt i P : Nat) (w : World) (hf : fd f cb nm cnt w) (hi : i < cnt) (hc : cnt <= maxLen) (hp : w.cell? (aV P 0) = some (.func (.func f) #[] cb)) (eg : ∀ args w, (callFunc f args).run Tryz.prog w = .ok (.enter f args) w) :
  Calls Tryz.prog 157 #[iV i, .pointer (some (aV P 0))] w fun e w' => (∃ x : Int, e = .returned (iV x) /\ (x = 0 ↔ bS nm i = true)) /\ Below w.heap.size w w' := by
 unfold maxLen at hc
 have HF := aB hf; clear hf
 have hPl := aM w _ hp
 go_enter Tryz.func157, Tryz.ntmps157
 go_wp2
 go_loopw [6] (fun v wr => ∃ k : Nat, k <= i /\ v = iV k /\ Hid (Below w.heap.size w wr) /\ Hid (∀ j < k, nm j ≠ nm i)) (fun v _ => i + 1 - (intOf v).toNat)
 case atStart => exact ⟨0, by omega, rfl, aJ _ _, fun j h => by omega⟩
 case round =>
  obtain ⟨k, hk, rfl, HB, HQ⟩ := hrel
  have m0 : (0 : Int) <= (k : Int) := by omega
  by_cases hlt : k < i
  ·have m1 : (k : Int) < (i : Int) := by omega
   have hp2 := (HB.out.cell (p := (aV P 0)) hPl).trans hp
   have HP2 := aB hp2
   go_upto_region 4 with fail
   go_region_with (first
    | (refine (HF.out k (by omega) _ (al HB.out)).mono ?_; rintro e w2 ⟨rfl, hb⟩; have HB2 := aB (bt (al HB.out) hb); have hp3 := (HB2.out.cell (p := (aV P 0)) hPl).trans hp; clear hb)
    | (refine (HF.out i (by omega) _ (al HB.out)).mono ?_; rintro e w2 ⟨rfl, hb⟩; have HB2 := aB (bt (al HB.out) hb); have hp3 := (HB2.out.cell (p := (aV P 0)) hPl).trans hp; clear hb)
    | (refine (HF.out k (by omega) _ HB2.out).mono ?_; rintro e w3 ⟨rfl, hb⟩; have HB3 := aB (bt HB2.out hb); clear hb)
    | (refine (HF.out i (by omega) _ HB2.out).mono ?_; rintro e w3 ⟨rfl, hb⟩; have HB3 := aB (bt HB2.out hb); clear hb))
   all_goals
    have hx0 : (nm k == nm i) = decide (nm k = nm i) := by by_cases h : nm k = nm i <;> simp [h]
    by_cases hx : nm k = nm i
    ·have hx1 : (nm k == nm i) = true := by simpa using hx
     have HR : Hid (bS nm i = false) := by
      show _ = _
      rw [Bool.eq_false_iff]
      intro h
      have := List.all_eq_true.1 h k (List.mem_range.2 hlt)
      simp [hx] at this
     rw [hx1]
     clear hx0 hx hx1
     go_wp2_with fail
     go_ret
     exact ⟨⟨4, rfl, by simp [HR.out]⟩, HB3.out⟩
    ·have hx1 : (nm k == nm i) = false := by simpa using hx
     have HN : Hid (∀ j < k + 1, nm j ≠ nm i) := fun j hj => by
      rcases Nat.lt_or_ge j k with h | h
      ·exact HQ.out j h
      ·obtain rfl : j = k := by omega
       exact hx
     rw [hx1]
     clear hx0 hx hx1
     go_wp2_with fail
     go_roundw
     case rel => exact ⟨k + 1, by omega, by go_num, HB3.out, HN.out⟩
     case measure => simp [intOf]; omega
  ·have m1 : ¬ (k : Int) < (i : Int) := by omega
   have HR : Hid (bS nm i = true) := by
    show _ = _
    unfold bS
    rw [List.all_eq_true]
    intro j hj
    have := HQ.out j (by have := List.mem_range.1 hj; omega)
    simpa using this
   go_wp2
   go_ret
   exact ⟨⟨0, rfl, by simp [HR.out]⟩, HB.out⟩
theorem tj (f : FuncId) (cb : Array Value) (nm : Nat -> List UInt8) (cnt i P : Nat) (w : World) (hf : fd f cb nm cnt w) (hi : i < cnt) (hc : cnt <= maxLen) (hp : w.cell? (aV P 0) = some (.func (.func f) #[] cb)) (eg : ∀ args w, (callFunc f args).run Tryz.prog w = .ok (.enter f args) w) :
  Calls Tryz.prog 160 #[iV i, .pointer (some (aV P 0))] w fun e w' => (∃ x : Int, e = .returned (iV x) /\ (x = 0 ↔ bS nm i = true)) /\ Below w.heap.size w w' := by
 unfold maxLen at hc
 have HF := aB hf; clear hf
 have hPl := aM w _ hp
 go_enter Tryz.func160, Tryz.ntmps160
 go_wp2
 go_loopw [6] (fun v wr => ∃ k : Nat, k <= i /\ v = iV k /\ Hid (Below w.heap.size w wr) /\ Hid (∀ j < k, nm j ≠ nm i)) (fun v _ => i + 1 - (intOf v).toNat)
 case atStart => exact ⟨0, by omega, rfl, aJ _ _, fun j h => by omega⟩
 case round =>
  obtain ⟨k, hk, rfl, HB, HQ⟩ := hrel
  have m0 : (0 : Int) <= (k : Int) := by omega
  by_cases hlt : k < i
  ·have m1 : (k : Int) < (i : Int) := by omega
   have hp2 := (HB.out.cell (p := (aV P 0)) hPl).trans hp
   have HP2 := aB hp2
   go_upto_region 4 with fail
   go_region_with (first
    | (refine (HF.out k (by omega) _ (al HB.out)).mono ?_; rintro e w2 ⟨rfl, hb⟩; have HB2 := aB (bt (al HB.out) hb); have hp3 := (HB2.out.cell (p := (aV P 0)) hPl).trans hp; clear hb)
    | (refine (HF.out i (by omega) _ (al HB.out)).mono ?_; rintro e w2 ⟨rfl, hb⟩; have HB2 := aB (bt (al HB.out) hb); have hp3 := (HB2.out.cell (p := (aV P 0)) hPl).trans hp; clear hb)
    | (refine (HF.out k (by omega) _ HB2.out).mono ?_; rintro e w3 ⟨rfl, hb⟩; have HB3 := aB (bt HB2.out hb); clear hb)
    | (refine (HF.out i (by omega) _ HB2.out).mono ?_; rintro e w3 ⟨rfl, hb⟩; have HB3 := aB (bt HB2.out hb); clear hb))
   all_goals
    have hx0 : (nm k == nm i) = decide (nm k = nm i) := by by_cases h : nm k = nm i <;> simp [h]
    by_cases hx : nm k = nm i
    ·have hx1 : (nm k == nm i) = true := by simpa using hx
     have HR : Hid (bS nm i = false) := by
      show _ = _
      rw [Bool.eq_false_iff]
      intro h
      have := List.all_eq_true.1 h k (List.mem_range.2 hlt)
      simp [hx] at this
     rw [hx1]
     clear hx0 hx hx1
     go_wp2_with fail
     go_ret
     exact ⟨⟨4, rfl, by simp [HR.out]⟩, HB3.out⟩
    ·have hx1 : (nm k == nm i) = false := by simpa using hx
     have HN : Hid (∀ j < k + 1, nm j ≠ nm i) := fun j hj => by
      rcases Nat.lt_or_ge j k with h | h
      ·exact HQ.out j h
      ·obtain rfl : j = k := by omega
       exact hx
     rw [hx1]
     clear hx0 hx hx1
     go_wp2_with fail
     go_roundw
     case rel => exact ⟨k + 1, by omega, by go_num, HB3.out, HN.out⟩
     case measure => simp [intOf]; omega
  ·have m1 : ¬ (k : Int) < (i : Int) := by omega
   have HR : Hid (bS nm i = true) := by
    show _ = _
    unfold bS
    rw [List.all_eq_true]
    intro j hj
    have := HQ.out j (by have := List.mem_range.1 hj; omega)
    simpa using this
   go_wp2
   go_ret
   exact ⟨⟨0, rfl, by simp [HR.out]⟩, HB.out⟩
theorem tk (f : FuncId) (cb : Array Value) (nm : Nat -> List UInt8) (cnt i P : Nat) (w : World) (hf : fd f cb nm cnt w) (hi : i < cnt) (hc : cnt <= maxLen) (hp : w.cell? (aV P 0) = some (.func (.func f) #[] cb)) (eg : ∀ args w, (callFunc f args).run Tryz.prog w = .ok (.enter f args) w) :
  Calls Tryz.prog 167 #[iV i, .pointer (some (aV P 0))] w fun e w' => (∃ x : Int, e = .returned (iV x) /\ (x = 0 ↔ bS nm i = true)) /\ Below w.heap.size w w' := by
 unfold maxLen at hc
 have HF := aB hf; clear hf
 have hPl := aM w _ hp
 go_enter Tryz.func167, Tryz.ntmps167
 go_wp2
 go_loopw [6] (fun v wr => ∃ k : Nat, k <= i /\ v = iV k /\ Hid (Below w.heap.size w wr) /\ Hid (∀ j < k, nm j ≠ nm i)) (fun v _ => i + 1 - (intOf v).toNat)
 case atStart => exact ⟨0, by omega, rfl, aJ _ _, fun j h => by omega⟩
 case round =>
  obtain ⟨k, hk, rfl, HB, HQ⟩ := hrel
  have m0 : (0 : Int) <= (k : Int) := by omega
  by_cases hlt : k < i
  ·have m1 : (k : Int) < (i : Int) := by omega
   have hp2 := (HB.out.cell (p := (aV P 0)) hPl).trans hp
   have HP2 := aB hp2
   go_upto_region 4 with fail
   go_region_with (first
    | (refine (HF.out k (by omega) _ (al HB.out)).mono ?_; rintro e w2 ⟨rfl, hb⟩; have HB2 := aB (bt (al HB.out) hb); have hp3 := (HB2.out.cell (p := (aV P 0)) hPl).trans hp; clear hb)
    | (refine (HF.out i (by omega) _ (al HB.out)).mono ?_; rintro e w2 ⟨rfl, hb⟩; have HB2 := aB (bt (al HB.out) hb); have hp3 := (HB2.out.cell (p := (aV P 0)) hPl).trans hp; clear hb)
    | (refine (HF.out k (by omega) _ HB2.out).mono ?_; rintro e w3 ⟨rfl, hb⟩; have HB3 := aB (bt HB2.out hb); clear hb)
    | (refine (HF.out i (by omega) _ HB2.out).mono ?_; rintro e w3 ⟨rfl, hb⟩; have HB3 := aB (bt HB2.out hb); clear hb))
   all_goals
    have hx0 : (nm k == nm i) = decide (nm k = nm i) := by by_cases h : nm k = nm i <;> simp [h]
    by_cases hx : nm k = nm i
    ·have hx1 : (nm k == nm i) = true := by simpa using hx
     have HR : Hid (bS nm i = false) := by
      show _ = _
      rw [Bool.eq_false_iff]
      intro h
      have := List.all_eq_true.1 h k (List.mem_range.2 hlt)
      simp [hx] at this
     rw [hx1]
     clear hx0 hx hx1
     go_wp2_with fail
     go_ret
     exact ⟨⟨4, rfl, by simp [HR.out]⟩, HB3.out⟩
    ·have hx1 : (nm k == nm i) = false := by simpa using hx
     have HN : Hid (∀ j < k + 1, nm j ≠ nm i) := fun j hj => by
      rcases Nat.lt_or_ge j k with h | h
      ·exact HQ.out j h
      ·obtain rfl : j = k := by omega
       exact hx
     rw [hx1]
     clear hx0 hx hx1
     go_wp2_with fail
     go_roundw
     case rel => exact ⟨k + 1, by omega, by go_num, HB3.out, HN.out⟩
     case measure => simp [intOf]; omega
  ·have m1 : ¬ (k : Int) < (i : Int) := by omega
   have HR : Hid (bS nm i = true) := by
    show _ = _
    unfold bS
    rw [List.all_eq_true]
    intro j hj
    have := HQ.out j (by have := List.mem_range.1 hj; omega)
    simpa using this
   go_wp2
   go_ret
   exact ⟨⟨0, rfl, by simp [HR.out]⟩, HB.out⟩
theorem tm (f : FuncId) (cb : Array Value) (nm : Nat -> List UInt8) (cnt i P : Nat) (w : World) (hf : fd f cb nm cnt w) (hi : i < cnt) (hc : cnt <= maxLen) (hp : w.cell? (aV P 0) = some (.func (.func f) #[] cb)) (eg : ∀ args w, (callFunc f args).run Tryz.prog w = .ok (.enter f args) w) :
  Calls Tryz.prog 171 #[iV i, .pointer (some (aV P 0))] w fun e w' => (∃ x : Int, e = .returned (iV x) /\ (x = 0 ↔ bS nm i = true)) /\ Below w.heap.size w w' := by
 unfold maxLen at hc
 have HF := aB hf; clear hf
 have hPl := aM w _ hp
 go_enter Tryz.func171, Tryz.ntmps171
 go_wp2
 go_loopw [6] (fun v wr => ∃ k : Nat, k <= i /\ v = iV k /\ Hid (Below w.heap.size w wr) /\ Hid (∀ j < k, nm j ≠ nm i)) (fun v _ => i + 1 - (intOf v).toNat)
 case atStart => exact ⟨0, by omega, rfl, aJ _ _, fun j h => by omega⟩
 case round =>
  obtain ⟨k, hk, rfl, HB, HQ⟩ := hrel
  have m0 : (0 : Int) <= (k : Int) := by omega
  by_cases hlt : k < i
  ·have m1 : (k : Int) < (i : Int) := by omega
   have hp2 := (HB.out.cell (p := (aV P 0)) hPl).trans hp
   have HP2 := aB hp2
   go_upto_region 4 with fail
   go_region_with (first
    | (refine (HF.out k (by omega) _ (al HB.out)).mono ?_; rintro e w2 ⟨rfl, hb⟩; have HB2 := aB (bt (al HB.out) hb); have hp3 := (HB2.out.cell (p := (aV P 0)) hPl).trans hp; clear hb)
    | (refine (HF.out i (by omega) _ (al HB.out)).mono ?_; rintro e w2 ⟨rfl, hb⟩; have HB2 := aB (bt (al HB.out) hb); have hp3 := (HB2.out.cell (p := (aV P 0)) hPl).trans hp; clear hb)
    | (refine (HF.out k (by omega) _ HB2.out).mono ?_; rintro e w3 ⟨rfl, hb⟩; have HB3 := aB (bt HB2.out hb); clear hb)
    | (refine (HF.out i (by omega) _ HB2.out).mono ?_; rintro e w3 ⟨rfl, hb⟩; have HB3 := aB (bt HB2.out hb); clear hb))
   all_goals
    have hx0 : (nm k == nm i) = decide (nm k = nm i) := by by_cases h : nm k = nm i <;> simp [h]
    by_cases hx : nm k = nm i
    ·have hx1 : (nm k == nm i) = true := by simpa using hx
     have HR : Hid (bS nm i = false) := by
      show _ = _
      rw [Bool.eq_false_iff]
      intro h
      have := List.all_eq_true.1 h k (List.mem_range.2 hlt)
      simp [hx] at this
     rw [hx1]
     clear hx0 hx hx1
     go_wp2_with fail
     go_ret
     exact ⟨⟨4, rfl, by simp [HR.out]⟩, HB3.out⟩
    ·have hx1 : (nm k == nm i) = false := by simpa using hx
     have HN : Hid (∀ j < k + 1, nm j ≠ nm i) := fun j hj => by
      rcases Nat.lt_or_ge j k with h | h
      ·exact HQ.out j h
      ·obtain rfl : j = k := by omega
       exact hx
     rw [hx1]
     clear hx0 hx hx1
     go_wp2_with fail
     go_roundw
     case rel => exact ⟨k + 1, by omega, by go_num, HB3.out, HN.out⟩
     case measure => simp [intOf]; omega
  ·have m1 : ¬ (k : Int) < (i : Int) := by omega
   have HR : Hid (bS nm i = true) := by
    show _ = _
    unfold bS
    rw [List.all_eq_true]
    intro j hj
    have := HQ.out j (by have := List.mem_range.1 hj; omega)
    simpa using this
   go_wp2
   go_ret
   exact ⟨⟨0, rfl, by simp [HR.out]⟩, HB.out⟩
end Go.Proofs.YtpeaiphdkgifaaaGreatDoor
