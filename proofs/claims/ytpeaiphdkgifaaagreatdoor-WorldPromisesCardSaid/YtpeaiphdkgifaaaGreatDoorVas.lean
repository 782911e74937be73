/- The walk over the reference's faults, Consistent. -/
import Derived.Test.YtpeaiphdkgifaaaGreatDoorVar
namespace Go.Proofs.YtpeaiphdkgifaaaGreatDoor
open Go.RowKit
set_option maxHeartbeats 20000000
set_option maxRecDepth 100000
def gv (n : Net) (K : Nat) : Prop := (aW n K).length <= fJ K /\ ∀ i < (aW n K).length, eV n K i
theorem oG {n : Net} (hf : gx n) {K : Nat} (h1 : 1 <= K) (h2 : K <= 5) : (aW n K).length <= 50 := by
 obtain ⟨l1, l2, l3, l4, l5⟩ := oF n
 obtain ⟨f1, f2, f3, f4, f5, f6⟩ := hf
 rcases (by omega : K = 1 ∨ K = 2 ∨ K = 3 ∨ K = 4 ∨ K = 5) with rfl | rfl | rfl | rfl | rfl <;> omega
theorem kQ {w : World} {n : Net} (hn : bj w n) {K : Nat} (h1 : 1 <= K) (h2 : K <= 5) : ∀ s ∈ aW n K, s.length <= maxLen := by
 obtain ⟨g1, g2, g3, g4, g5⟩ := vC hn
 rcases (by omega : K = 1 ∨ K = 2 ∨ K = 3 ∨ K = 4 ∨ K = 5) with rfl | rfl | rfl | rfl | rfl <;> intro s hs
 ·obtain ⟨i, -, rfl⟩ := List.mem_map.1 hs
  exact g1 i
 ·exact hn.op s hs
 ·obtain ⟨o, ho, rfl⟩ := List.mem_map.1 hs
  exact (hn.off o ho).1.1
 ·obtain ⟨o, ho, rfl⟩ := List.mem_map.1 hs
  exact (hn.lin o ho).1
 ·obtain ⟨o, ho, rfl⟩ := List.mem_map.1 hs
  exact (hn.cls o ho).1
theorem iT {α : Type} {n : Net} {K i : Nat} {nm : Nat -> List UInt8} {gd : α -> Bool} {L : List α} {x : α} (hnm : ∀ j, j <= i -> gH n K j = nm j) (hx : L[i]? = some x) (hg : vB n K i = gd x) : eV n K i ↔ cB nm gd L i := by
 unfold eV cB
 rw [hg, hnm i (aH _), jv, jv]
 constructor
 ·rintro ⟨a, b, c⟩
  refine ⟨a, fun j hj => by rw [<- hnm j (aI hj), <- hnm i (aH _)]; exact b j hj, fun y hy => ?_⟩
  rw [hx] at hy
  cases hy
  exact c
 ·rintro ⟨a, b, c⟩
  exact ⟨a, fun j hj => by rw [hnm j (aI hj), hnm i (aH _)]; exact b j hj, c x hx⟩
theorem iw {n : Net} : (n.names.length = n.cals.length /\ ∀ K, 1 <= K -> K <= 5 -> gv n K) ↔ jB n := by
 obtain ⟨l1, l2, l3, l4, l5⟩ := oF n
 have e1 : ∀ i < n.cals.length, eV n 1 i ↔ cB (eM n) du n.cals i := fun i hi => iT (fun j hj => by unfold gH aW; simp [List.getD, show j < n.cals.length by omega]) (aD hi) (by simp [vB, List.getD, hi])
 have e2 : ∀ i < n.ops.length, eV n 2 i ↔ cB (pR n) (fun _ => true) n.ops i := fun i hi => iT (fun j hj => rfl) (aD hi) rfl
 have e3 : ∀ i < n.offs.length, eV n 3 i ↔ cB (kp n) (ct n) n.offs i := fun i hi => iT (fun j hj => by unfold gH aW kp ap; simp [List.getD, show j < n.offs.length by omega]) (bd hi) rfl
 have e4 : ∀ i < n.lins.length, eV n 4 i ↔ cB (kq n) (eY n) n.lins i := fun i hi => iT (fun j hj => by unfold gH aW kq af; simp [List.getD, show j < n.lins.length by omega]) (bC hi) rfl
 have e5 : ∀ i < n.clss.length, eV n 5 i ↔ cB (kr n) kG n.clss i := fun i hi => iT (fun j hj => by unfold gH aW kr aw; simp [List.getD, show j < n.clss.length by omega]) (bX hi) rfl
 constructor
 ·rintro ⟨h0, h⟩
  have k1 := h 1 (by omega) (by omega)
  have k2 := h 2 (by omega) (by omega)
  have k3 := h 3 (by omega) (by omega)
  have k4 := h 4 (by omega) (by omega)
  have k5 := h 5 (by omega) (by omega)
  unfold gv at k1 k2 k3 k4 k5
  rw [l1] at k1
  rw [l2] at k2
  rw [l3] at k3
  rw [l4] at k4
  rw [l5] at k5
  exact ⟨h0, ⟨k1.1, fun i hi => (e1 i hi).1 (k1.2 i hi)⟩, ⟨k2.1, fun i hi => (e2 i hi).1 (k2.2 i hi)⟩, ⟨k3.1, fun i hi => (e3 i hi).1 (k3.2 i hi)⟩, ⟨k4.1, fun i hi => (e4 i hi).1 (k4.2 i hi)⟩, ⟨k5.1, fun i hi => (e5 i hi).1 (k5.2 i hi)⟩⟩
 ·intro h
  refine ⟨h.same, fun K a b => ?_⟩
  unfold gv
  rcases (by omega : K = 1 ∨ K = 2 ∨ K = 3 ∨ K = 4 ∨ K = 5) with rfl | rfl | rfl | rfl | rfl
  ·rw [l1]; exact ⟨h.cal.1, fun i hi => (e1 i hi).2 (h.cal.2 i hi)⟩
  ·rw [l2]; exact ⟨h.op.1, fun i hi => (e2 i hi).2 (h.op.2 i hi)⟩
  ·rw [l3]; exact ⟨h.off.1, fun i hi => (e3 i hi).2 (h.off.2 i hi)⟩
  ·rw [l4]; exact ⟨h.lin.1, fun i hi => (e4 i hi).2 (h.lin.2 i hi)⟩
  ·rw [l5]; exact ⟨h.cls.1, fun i hi => (e5 i hi).2 (h.cls.2 i hi)⟩
theorem vN {K : Nat} (h1 : 1 <= K) (h2 : K <= 5) : fJ K <= 40 := by
 rcases (by omega : K = 1 ∨ K = 2 ∨ K = 3 ∨ K = 4 ∨ K = 5) with rfl | rfl | rfl | rfl | rfl <;> decide
theorem mN (n : Net) (w : World) (hn : bj w n) (hf : gx n) :
  Calls Tryz.prog 182 #[bB n] w (rY w (jB n)) := by
 obtain ⟨i0, hi0, hz0, hz1, hz2⟩ := info_parts mK
 have hb0 := ba w (ae n)
 have hx0 := aC w (ae n)
 have hl := hn.lens
 unfold maxLen at hl
 have HNP : Hid (br (w.alloc (ae n)) w.heap.size n) := ⟨fun i v hv => (aA _ hx0).trans hv, hn.below hb0⟩
 have HNW := aB hn
 have HF := aB hf
 have HB0 := aB hb0
 have HWL : Hid (w.heap.size + 1 <= (w.alloc (ae n)).heap.size) := aa hx0
 clear hn hf hb0 hx0
 by_cases hsame : n.names.length = n.cals.length
 ·have s1 : ((n.names.length : Int) != (n.cals.length : Int)) = false := by simp; omega
  have s2 : ((n.names.length : Int) == (n.cals.length : Int)) = true := by simp; omega
  have HS := aB hsame; clear hsame
  go_enter Tryz.func182, Tryz.ntmps182
  go_upto_region 1 with fail
  change Code.wp _ _ _ _ (w.alloc (ae n))
  generalize (w.alloc (ae n)) = W at *
  generalize hX : w.heap.size = X at *
  have HX := aB hX; clear hX
  have HNB : Hid (∀ wr, Below (X + 1) W wr -> Below w.heap.size w wr /\ br wr X n) := fun wr hb => cW HNW.out HX.out HB0.out HNP.out.box hb
  have n0 : W.cell? (aV X 0) = some (.slice n.calA n.cals.length n.calC) := HNP.out.box 0 _ rfl
  have n1 : W.cell? (aV X 1) = some (.slice n.namA n.names.length n.namC) := HNP.out.box 1 _ rfl
  have HO0 : Hid (W.ownsRow (X + 1) 150 3 (.slice none 0 0) 0 []) := World.ownsRow_nil _ _ _ _
  have HBB0 : Hid (Below (X + 1) W W) := aJ _ _
  have HI0 : Hid (∀ x ∈ ([] : List Value), x.oneCell' = true) := fun x hx => by cases hx
  have HQ0 : Hid (∀ z : Nat, z = 0 -> (z = 0 ↔ n.names.length = n.cals.length /\ ∀ k, 1 <= k -> k < 1 -> gv n k)) := fun z hz => ⟨fun _ => ⟨HS.out, fun k a b => by omega⟩, fun _ => hz⟩
  go_wp2_with fail
  clear n0 n1 s1 s2
  go_loopw [4, 3] (fun kd v wr => ∃ (K m : Nat) (xs : List Value), 1 <= K /\ K <= 6 /\ m + 50 <= 51 * K /\ kd = iV K /\ Hid (wr.ownsRow (X + 1) 150 3 v m xs) /\ Hid (∀ x ∈ xs, x.oneCell' = true) /\ Hid (Below (X + 1) W wr) /\ Hid (m = 0 ↔ n.names.length = n.cals.length /\ ∀ k, 1 <= k -> k < K -> gv n k)) (fun kd _ _ => 7 - (intOf kd).toNat)
  case atStart => exact ⟨1, _, _, by omega, by omega, by omega, rfl, HO0.out, HI0.out, HBB0.out, HQ0.out _ rfl⟩
  case round =>
   obtain ⟨K, m, xs, hK1, hK2, hm, rfl, HO, HI, HB, HQ⟩ := hrel
   obtain ⟨A2, c2, rfl⟩ := b9 HO.out
   by_cases hK : K <= 5
   ·have k1 : (K : Int) <= 5 := by omega
    obtain ⟨n0, n1, n2, n3, n4, n5⟩ := jA ((HNB.out _ HB.out).2)
    go_wp2_with fail
    refine (kR K hK1 hK n _ (HNB.out _ HB.out).2.net HF.out).mono ?_
    rintro e w2 ⟨A3, c3, rfl, hr, hfr, hb⟩
    have HRD := aB hr
    have HB2 : Hid (Below (X + 1) W w2) := HB.out.trans (hb.mono (aG HWL.out HB.out.size))
    have HO2 := aB (aq HO.out hb)
    have HAP : Hid (∀ a, A3 = some a -> (Value.slice A2 m c2).ownBlock ≠ some a.block) := fun a ha h => by
     have h1 := HO.out.lt _ h
     have h2 := hfr a ha
     omega
    have HAL : Hid (∀ a, A3 = some a -> a.block < w2.heap.size) := fun a ha => (hfr a ha).2
    have hlen := oG HF.out hK1 hK
    have hlim := vN hK1 hK
    have HK1 := aB hK1
    have HK5 := aB hK
    clear hr hfr hb n0 n1 n2 n3 n4 n5
    go_wp2_with fail
    go_loopw [6, 3] (fun i v wq => ∃ (k p : Nat) (ys : List Value), k <= (aW n K).length /\ k <= fJ K /\ p <= m + k /\ i = iV k /\ Hid (wq.ownsRow (X + 1) 150 3 v p ys) /\ Hid (∀ x ∈ ys, x.oneCell' = true) /\ Hid (Below (X + 1) W wq) /\ Hid (Rd wq A3 ((aW n K).map sV)) /\ Hid (∀ a, A3 = some a -> v.ownBlock ≠ some a.block /\ a.block < wq.heap.size) /\ Hid (p = 0 ↔ m = 0 /\ ∀ j < k, eV n K j)) (fun i _ _ => 60 - (intOf i).toNat)
    case atStart => exact ⟨0, m, xs, by omega, by omega, by omega, rfl, HO2.out, HI.out, HB2.out, HRD.out, (fun a ha => ⟨HAP.out a ha, HAL.out a ha⟩), ⟨fun h => ⟨h, fun j hj => by omega⟩, fun h => h.1⟩⟩
    case round =>
     clear HRD HB2 HO2 HAP HAL
     obtain ⟨k, p, ys, hk1, hk2, hp, rfl, HO, HI, HB, HRD, HAP, HQ2⟩ := hrel
     obtain ⟨A4, c4, rfl⟩ := b9 HO.out
     have m0 : (0 : Int) <= (k : Int) := by omega
     by_cases hkl : k < (aW n K).length
     ·have m1 : (k : Int) < ((aW n K).length : Int) := by omega
      by_cases hkm : k < fJ K
      ·have m2 : (k : Int) < (fJ K : Int) := by omega
       go_wp2_with fail
       refine (dp K HK1.out HK5.out _).mono ?_
       rintro e w3 ⟨rfl, rfl⟩
       obtain ⟨n0, n1, n2, n3, n4, n5⟩ := jA ((HNB.out _ HB.out).2)
       go_wp2_with fail
       refine (nL K HK1.out HK5.out n A3 c3 k _ (HNB.out _ HB.out).2.net hkl hlen (kQ (HNB.out _ HB.out).2.net HK1.out HK5.out) HRD.out).mono ?_
       rintro e w3 ⟨v, rfl, hv4, hv, hb⟩
       have HV := aB hv
       have HB3 : Hid (Below (X + 1) W w3) := HB.out.trans (hb.mono (aG HWL.out HB.out.size))
       have HO3 := aB (aq HO.out hb)
       have HRD3 := aB (HRD.out.below hb)
       have HAP3 : Hid (∀ a, A3 = some a -> (Value.slice A4 p c4).ownBlock ≠ some a.block /\ a.block < w3.heap.size) := fun a ha => ⟨(HAP.out a ha).1, Nat.lt_of_lt_of_le (HAP.out a ha).2 hb.size⟩
       clear hv hb n0 n1 n2 n3 n4 n5 HO HB HRD HAP
       by_cases hv0 : v = 0
       ·subst hv0
        have HQ3 : Hid (p = 0 ↔ m = 0 /\ ∀ j < k + 1, eV n K j) := HQ2.out.trans ⟨fun h => ⟨h.1, fun j hj => by
         rcases Nat.lt_or_ge j k with h1 | h1
         ·exact h.2 j h1
         ·obtain rfl : j = k := by omega
          exact HV.out.1 rfl⟩, fun h => ⟨h.1, fun j hj => h.2 j (by omega)⟩⟩
        go_wp2_with fail
        go_roundw
        case rel => exact ⟨k + 1, p, ys, by omega, by omega, by omega, by go_num, HO3.out, HI.out, HB3.out, HRD3.out, HAP3.out, HQ3.out⟩
        case measure => simp [intOf]; omega
       ·have v1 : ((v : Int) != 0) = true := by simp; omega
        have v2 : ((v : Int) == 0) = false := by simp; omega
        have HQ3 : Hid (p + 1 = 0 ↔ m = 0 /\ ∀ j < k + 1, eV n K j) := ⟨fun h => by omega, fun h => absurd (HV.out.2 (h.2 k (by omega))) hv0⟩
        clear hv0
        go_wp2_with (refine bg (by rfl) (.tmp 45) (.tmp 50) 85 85 (by rfl) (X + 1) 150 i0 _ 3 24 Tryz.underlying85 hi0 hz0 hz1 hz2 (by rfl) _ p ys (by rfl) (HO3.out.alloc (.cells #[iV K, iV k, iV v] 150)) _ (by rfl) 1 [iV K, iV k, iV v] (fB 3 Tryz.underlying85 (Rd.new _ [iV K, iV k, iV v] _) rfl (by simp [Value.oneCell'])) (by unfold maxLen; omega) (by omega) (by have := HWL.out; have := HB3.out.size; simp; omega) ?_; intro A5 c5 w4 ho hgr hbl; have HO4 := aB ho; have HB4 := aB (bp (HB3.out.alloc (aG HWL.out HB3.out.size) _) HWL.out (HO3.out.alloc _) (aH _) hgr); have HRD4 : Hid (Rd w4 A3 ((aW n K).map sV)) := (HRD3.out.below (ba _ (.cells #[iV K, iV k, iV v] 150))).same hgr.size (fun a ha hlt => hgr.block _ hlt (fun e => (HAP3.out a ha).1 e.symm)); have HAP4 : Hid (∀ a, A3 = some a -> (Value.slice A5 (p + 1) c5).ownBlock ≠ some a.block /\ a.block < w4.heap.size) := (fun a ha => ⟨ru hbl (HAP3.out a ha).1 (by have := (HAP3.out a ha).2; simp; omega), Nat.lt_of_lt_of_le (HAP3.out a ha).2 (aG (by simp) hgr.size)⟩); clear ho hgr hbl)
        go_roundw
        case rel => exact ⟨k + 1, p + 1, ys ++ [iV K, iV k, iV v], by omega, by omega, by omega, by go_num, HO4.out, fI HI.out, HB4.out, HRD4.out, HAP4.out, HQ3.out⟩
        case measure => simp [intOf]; omega
      ·have m2 : ¬ (k : Int) < (fJ K : Int) := by omega
       have m3 : ((aW n K).length : Int) > (fJ K : Int) := by omega
       have m4 : (fJ K : Int) < ((aW n K).length : Int) := by omega
       have HQ3 : Hid (p + 1 = 0 ↔ n.names.length = n.cals.length /\ ∀ k, 1 <= k -> k < K + 1 -> gv n k) := ⟨fun h => by omega, fun h => by have := (h.2 K HK1.out (by omega)).1; omega⟩
       go_wp2_with fail
       refine (dp K HK1.out HK5.out _).mono ?_
       rintro e w3 ⟨rfl, rfl⟩
       go_wp2_with fail
       refine (dp K HK1.out HK5.out _).mono ?_
       rintro e w3 ⟨rfl, rfl⟩
       go_wp2_with fail
       refine (dp K HK1.out HK5.out _).mono ?_
       rintro e w3 ⟨rfl, rfl⟩
       go_wp2_with (refine bg (by rfl) (.tmp 57) (.tmp 62) 85 85 (by rfl) (X + 1) 150 i0 _ 3 24 Tryz.underlying85 hi0 hz0 hz1 hz2 (by rfl) _ p ys (by rfl) (HO.out.alloc (.cells #[iV K, iV (fJ K), iV 2] 150)) _ (by rfl) 1 [iV K, iV (fJ K), iV 2] (fB 3 Tryz.underlying85 (Rd.new _ [iV K, iV (fJ K), iV 2] _) rfl (by simp [Value.oneCell'])) (by unfold maxLen; omega) (by omega) (by have := HWL.out; have := HB.out.size; simp; omega) ?_; intro A5 c5 w4 ho hgr hbl; have HO4 := aB ho; have HB4 := aB (bp (HB.out.alloc (aG HWL.out HB.out.size) _) HWL.out (HO.out.alloc _) (aH _) hgr); clear ho hgr hbl)
       go_roundw
       case rel => exact ⟨K + 1, p + 1, ys ++ [iV K, iV (fJ K), iV 2], by omega, by omega, by omega, by go_num, HO4.out, fI HI.out, HB4.out, HQ3.out⟩
       case measure => simp [intOf]; omega
     ·have m1 : ¬ (k : Int) < ((aW n K).length : Int) := by omega
      have m4 : ¬ (fJ K : Int) < ((aW n K).length : Int) := by omega
      have HQ3 : Hid (p = 0 ↔ n.names.length = n.cals.length /\ ∀ k, 1 <= k -> k < K + 1 -> gv n k) := HQ2.out.trans ⟨fun h => by
       have h2 := HQ.out.1 h.1
       refine ⟨h2.1, fun j h3 h4 => ?_⟩
       rcases Nat.lt_or_ge j K with h5 | h5
       ·exact h2.2 j h3 h5
       ·obtain rfl : j = K := by omega
        exact ⟨by omega, fun i hi => h.2 i (by omega)⟩, fun h => ⟨HQ.out.2 ⟨h.1, fun j h3 h4 => h.2 j h3 (by omega)⟩, fun j hj => (h.2 K HK1.out (by omega)).2 j (by omega)⟩⟩
      go_wp2_with fail
      refine (dp K HK1.out HK5.out _).mono ?_
      rintro e w3 ⟨rfl, rfl⟩
      go_wp2_with fail
      go_roundw
      case rel => exact ⟨K + 1, p, ys, by omega, by omega, by omega, by go_num, HO.out, HI.out, HB.out, HQ3.out⟩
      case measure => simp [intOf]; omega
   ·have k1 : ¬ (K : Int) <= 5 := by omega
    obtain rfl : K = 6 := by omega
    go_wp2_with fail
    go_ret
    exact ⟨A2, m, c2, xs, rfl, cn HO.out (by have := HX.out; omega), HI.out, HQ.out.trans ⟨fun h => iw.1 ⟨h.1, fun k a b => h.2 k a (by omega)⟩, fun h => ⟨h.same, fun k a b => (iw.2 h).2 k a (by omega)⟩⟩, by omega, (HNB.out _ HB.out).1⟩
 ·have s1 : ((n.names.length : Int) != (n.cals.length : Int)) = true := by simp; omega
  have s2 : ((n.names.length : Int) == (n.cals.length : Int)) = false := by simp; omega
  have HS := aB hsame; clear hsame
  go_enter Tryz.func182, Tryz.ntmps182
  go_upto_region 1 with fail
  change Code.wp _ _ _ _ (w.alloc (ae n))
  generalize (w.alloc (ae n)) = W at *
  generalize hX : w.heap.size = X at *
  have HX := aB hX; clear hX
  have HNB : Hid (∀ wr, Below (X + 1) W wr -> Below w.heap.size w wr /\ br wr X n) := fun wr hb => cW HNW.out HX.out HB0.out HNP.out.box hb
  have n0 : W.cell? (aV X 0) = some (.slice n.calA n.cals.length n.calC) := HNP.out.box 0 _ rfl
  have n1 : W.cell? (aV X 1) = some (.slice n.namA n.names.length n.namC) := HNP.out.box 1 _ rfl
  go_wp2_with (refine bg (by rfl) (.tmp 15) (.tmp 17) 85 85 (by rfl) (X + 1) 150 i0 _ 3 24 Tryz.underlying85 hi0 hz0 hz1 hz2 (by rfl) _ 0 [] (by rfl) (World.ownsRow_nil _ _ _ _) _ (by rfl) 1 [iV 1, iV (-1), iV 1] (fB 3 Tryz.underlying85 (Rd.new _ [iV 1, iV (-1), iV 1] _) rfl (by simp [Value.oneCell'])) (by unfold maxLen; omega) (by omega) (by have := HWL.out; simp; omega) ?_; intro A0 c0 w0 ho hgr hbl; have HO0 := aB ho; have HBB0 := aB (bp ((aJ (X + 1) W).alloc HWL.out _) HWL.out (World.ownsRow_nil _ (X + 1) 150 3) (aH _) hgr); clear ho hgr hbl)
  have HI0 : Hid (∀ x ∈ ([] ++ [iV 1, iV (-1), iV 1] : List Value), x.oneCell' = true) := by
   intro x hx
   simp at hx
   rcases hx with rfl | rfl | rfl <;> rfl
  have HQ0 : Hid (∀ z : Nat, z = 0 + 1 -> (z = 0 ↔ n.names.length = n.cals.length /\ ∀ k, 1 <= k -> k < 1 -> gv n k)) := fun z hz => ⟨fun h => by omega, fun h => absurd h.1 HS.out⟩
  clear n0 n1 s1 s2
  go_loopw [4, 3] (fun kd v wr => ∃ (K m : Nat) (xs : List Value), 1 <= K /\ K <= 6 /\ m + 50 <= 51 * K /\ kd = iV K /\ Hid (wr.ownsRow (X + 1) 150 3 v m xs) /\ Hid (∀ x ∈ xs, x.oneCell' = true) /\ Hid (Below (X + 1) W wr) /\ Hid (m = 0 ↔ n.names.length = n.cals.length /\ ∀ k, 1 <= k -> k < K -> gv n k)) (fun kd _ _ => 7 - (intOf kd).toNat)
  case atStart => exact ⟨1, _, _, by omega, by omega, by omega, rfl, HO0.out, HI0.out, HBB0.out, HQ0.out _ rfl⟩
  case round =>
   obtain ⟨K, m, xs, hK1, hK2, hm, rfl, HO, HI, HB, HQ⟩ := hrel
   obtain ⟨A2, c2, rfl⟩ := b9 HO.out
   by_cases hK : K <= 5
   ·have k1 : (K : Int) <= 5 := by omega
    obtain ⟨n0, n1, n2, n3, n4, n5⟩ := jA ((HNB.out _ HB.out).2)
    go_wp2_with fail
    refine (kR K hK1 hK n _ (HNB.out _ HB.out).2.net HF.out).mono ?_
    rintro e w2 ⟨A3, c3, rfl, hr, hfr, hb⟩
    have HRD := aB hr
    have HB2 : Hid (Below (X + 1) W w2) := HB.out.trans (hb.mono (aG HWL.out HB.out.size))
    have HO2 := aB (aq HO.out hb)
    have HAP : Hid (∀ a, A3 = some a -> (Value.slice A2 m c2).ownBlock ≠ some a.block) := fun a ha h => by
     have h1 := HO.out.lt _ h
     have h2 := hfr a ha
     omega
    have HAL : Hid (∀ a, A3 = some a -> a.block < w2.heap.size) := fun a ha => (hfr a ha).2
    have hlen := oG HF.out hK1 hK
    have hlim := vN hK1 hK
    have HK1 := aB hK1
    have HK5 := aB hK
    clear hr hfr hb n0 n1 n2 n3 n4 n5
    go_wp2_with fail
    go_loopw [6, 3] (fun i v wq => ∃ (k p : Nat) (ys : List Value), k <= (aW n K).length /\ k <= fJ K /\ p <= m + k /\ i = iV k /\ Hid (wq.ownsRow (X + 1) 150 3 v p ys) /\ Hid (∀ x ∈ ys, x.oneCell' = true) /\ Hid (Below (X + 1) W wq) /\ Hid (Rd wq A3 ((aW n K).map sV)) /\ Hid (∀ a, A3 = some a -> v.ownBlock ≠ some a.block /\ a.block < wq.heap.size) /\ Hid (p = 0 ↔ m = 0 /\ ∀ j < k, eV n K j)) (fun i _ _ => 60 - (intOf i).toNat)
    case atStart => exact ⟨0, m, xs, by omega, by omega, by omega, rfl, HO2.out, HI.out, HB2.out, HRD.out, (fun a ha => ⟨HAP.out a ha, HAL.out a ha⟩), ⟨fun h => ⟨h, fun j hj => by omega⟩, fun h => h.1⟩⟩
    case round =>
     clear HRD HB2 HO2 HAP HAL
     obtain ⟨k, p, ys, hk1, hk2, hp, rfl, HO, HI, HB, HRD, HAP, HQ2⟩ := hrel
     obtain ⟨A4, c4, rfl⟩ := b9 HO.out
     have m0 : (0 : Int) <= (k : Int) := by omega
     by_cases hkl : k < (aW n K).length
     ·have m1 : (k : Int) < ((aW n K).length : Int) := by omega
      by_cases hkm : k < fJ K
      ·have m2 : (k : Int) < (fJ K : Int) := by omega
       go_wp2_with fail
       refine (dp K HK1.out HK5.out _).mono ?_
       rintro e w3 ⟨rfl, rfl⟩
       obtain ⟨n0, n1, n2, n3, n4, n5⟩ := jA ((HNB.out _ HB.out).2)
       go_wp2_with fail
       refine (nL K HK1.out HK5.out n A3 c3 k _ (HNB.out _ HB.out).2.net hkl hlen (kQ (HNB.out _ HB.out).2.net HK1.out HK5.out) HRD.out).mono ?_
       rintro e w3 ⟨v, rfl, hv4, hv, hb⟩
       have HV := aB hv
       have HB3 : Hid (Below (X + 1) W w3) := HB.out.trans (hb.mono (aG HWL.out HB.out.size))
       have HO3 := aB (aq HO.out hb)
       have HRD3 := aB (HRD.out.below hb)
       have HAP3 : Hid (∀ a, A3 = some a -> (Value.slice A4 p c4).ownBlock ≠ some a.block /\ a.block < w3.heap.size) := fun a ha => ⟨(HAP.out a ha).1, Nat.lt_of_lt_of_le (HAP.out a ha).2 hb.size⟩
       clear hv hb n0 n1 n2 n3 n4 n5 HO HB HRD HAP
       by_cases hv0 : v = 0
       ·subst hv0
        have HQ3 : Hid (p = 0 ↔ m = 0 /\ ∀ j < k + 1, eV n K j) := HQ2.out.trans ⟨fun h => ⟨h.1, fun j hj => by
         rcases Nat.lt_or_ge j k with h1 | h1
         ·exact h.2 j h1
         ·obtain rfl : j = k := by omega
          exact HV.out.1 rfl⟩, fun h => ⟨h.1, fun j hj => h.2 j (by omega)⟩⟩
        go_wp2_with fail
        go_roundw
        case rel => exact ⟨k + 1, p, ys, by omega, by omega, by omega, by go_num, HO3.out, HI.out, HB3.out, HRD3.out, HAP3.out, HQ3.out⟩
        case measure => simp [intOf]; omega
       ·have v1 : ((v : Int) != 0) = true := by simp; omega
        have v2 : ((v : Int) == 0) = false := by simp; omega
        have HQ3 : Hid (p + 1 = 0 ↔ m = 0 /\ ∀ j < k + 1, eV n K j) := ⟨fun h => by omega, fun h => absurd (HV.out.2 (h.2 k (by omega))) hv0⟩
        clear hv0
        go_wp2_with (refine bg (by rfl) (.tmp 45) (.tmp 50) 85 85 (by rfl) (X + 1) 150 i0 _ 3 24 Tryz.underlying85 hi0 hz0 hz1 hz2 (by rfl) _ p ys (by rfl) (HO3.out.alloc (.cells #[iV K, iV k, iV v] 150)) _ (by rfl) 1 [iV K, iV k, iV v] (fB 3 Tryz.underlying85 (Rd.new _ [iV K, iV k, iV v] _) rfl (by simp [Value.oneCell'])) (by unfold maxLen; omega) (by omega) (by have := HWL.out; have := HB3.out.size; simp; omega) ?_; intro A5 c5 w4 ho hgr hbl; have HO4 := aB ho; have HB4 := aB (bp (HB3.out.alloc (aG HWL.out HB3.out.size) _) HWL.out (HO3.out.alloc _) (aH _) hgr); have HRD4 : Hid (Rd w4 A3 ((aW n K).map sV)) := (HRD3.out.below (ba _ (.cells #[iV K, iV k, iV v] 150))).same hgr.size (fun a ha hlt => hgr.block _ hlt (fun e => (HAP3.out a ha).1 e.symm)); have HAP4 : Hid (∀ a, A3 = some a -> (Value.slice A5 (p + 1) c5).ownBlock ≠ some a.block /\ a.block < w4.heap.size) := (fun a ha => ⟨ru hbl (HAP3.out a ha).1 (by have := (HAP3.out a ha).2; simp; omega), Nat.lt_of_lt_of_le (HAP3.out a ha).2 (aG (by simp) hgr.size)⟩); clear ho hgr hbl)
        go_roundw
        case rel => exact ⟨k + 1, p + 1, ys ++ [iV K, iV k, iV v], by omega, by omega, by omega, by go_num, HO4.out, fI HI.out, HB4.out, HRD4.out, HAP4.out, HQ3.out⟩
        case measure => simp [intOf]; omega
      ·have m2 : ¬ (k : Int) < (fJ K : Int) := by omega
       have m3 : ((aW n K).length : Int) > (fJ K : Int) := by omega
       have m4 : (fJ K : Int) < ((aW n K).length : Int) := by omega
       have HQ3 : Hid (p + 1 = 0 ↔ n.names.length = n.cals.length /\ ∀ k, 1 <= k -> k < K + 1 -> gv n k) := ⟨fun h => by omega, fun h => by have := (h.2 K HK1.out (by omega)).1; omega⟩
       go_wp2_with fail
       refine (dp K HK1.out HK5.out _).mono ?_
       rintro e w3 ⟨rfl, rfl⟩
       go_wp2_with fail
       refine (dp K HK1.out HK5.out _).mono ?_
       rintro e w3 ⟨rfl, rfl⟩
       go_wp2_with fail
       refine (dp K HK1.out HK5.out _).mono ?_
       rintro e w3 ⟨rfl, rfl⟩
       go_wp2_with (refine bg (by rfl) (.tmp 57) (.tmp 62) 85 85 (by rfl) (X + 1) 150 i0 _ 3 24 Tryz.underlying85 hi0 hz0 hz1 hz2 (by rfl) _ p ys (by rfl) (HO.out.alloc (.cells #[iV K, iV (fJ K), iV 2] 150)) _ (by rfl) 1 [iV K, iV (fJ K), iV 2] (fB 3 Tryz.underlying85 (Rd.new _ [iV K, iV (fJ K), iV 2] _) rfl (by simp [Value.oneCell'])) (by unfold maxLen; omega) (by omega) (by have := HWL.out; have := HB.out.size; simp; omega) ?_; intro A5 c5 w4 ho hgr hbl; have HO4 := aB ho; have HB4 := aB (bp (HB.out.alloc (aG HWL.out HB.out.size) _) HWL.out (HO.out.alloc _) (aH _) hgr); clear ho hgr hbl)
       go_roundw
       case rel => exact ⟨K + 1, p + 1, ys ++ [iV K, iV (fJ K), iV 2], by omega, by omega, by omega, by go_num, HO4.out, fI HI.out, HB4.out, HQ3.out⟩
       case measure => simp [intOf]; omega
     ·have m1 : ¬ (k : Int) < ((aW n K).length : Int) := by omega
      have m4 : ¬ (fJ K : Int) < ((aW n K).length : Int) := by omega
      have HQ3 : Hid (p = 0 ↔ n.names.length = n.cals.length /\ ∀ k, 1 <= k -> k < K + 1 -> gv n k) := HQ2.out.trans ⟨fun h => by
       have h2 := HQ.out.1 h.1
       refine ⟨h2.1, fun j h3 h4 => ?_⟩
       rcases Nat.lt_or_ge j K with h5 | h5
       ·exact h2.2 j h3 h5
       ·obtain rfl : j = K := by omega
        exact ⟨by omega, fun i hi => h.2 i (by omega)⟩, fun h => ⟨HQ.out.2 ⟨h.1, fun j h3 h4 => h.2 j h3 (by omega)⟩, fun j hj => (h.2 K HK1.out (by omega)).2 j (by omega)⟩⟩
      go_wp2_with fail
      refine (dp K HK1.out HK5.out _).mono ?_
      rintro e w3 ⟨rfl, rfl⟩
      go_wp2_with fail
      go_roundw
      case rel => exact ⟨K + 1, p, ys, by omega, by omega, by omega, by go_num, HO.out, HI.out, HB.out, HQ3.out⟩
      case measure => simp [intOf]; omega
   ·have k1 : ¬ (K : Int) <= 5 := by omega
    obtain rfl : K = 6 := by omega
    go_wp2_with fail
    go_ret
    exact ⟨A2, m, c2, xs, rfl, cn HO.out (by have := HX.out; omega), HI.out, HQ.out.trans ⟨fun h => iw.1 ⟨h.1, fun k a b => h.2 k a (by omega)⟩, fun h => ⟨h.same, fun k a b => (iw.2 h).2 k a (by omega)⟩⟩, by omega, (HNB.out _ HB.out).1⟩
theorem qr (n : Net) (w : World) (hn : bj w n) (hf : gx n) :
  Calls Tryz.prog 198 #[bB n] w fun e w' => (∃ b, e = .returned (.bool b) /\ (b = true ↔ jB n)) /\ Below w.heap.size w w' := by
 have hb0 := ba w (ae n)
 have hx0 := aC w (ae n)
 have HNP : Hid (br (w.alloc (ae n)) w.heap.size n) := ⟨fun i v hv => (aA _ hx0).trans hv, hn.below hb0⟩
 have HB0 := aB hb0
 have HF := aB hf
 have n0 : (w.alloc (ae n)).cell? (aV w.heap.size 0) = some (.slice n.calA n.cals.length n.calC) := HNP.out.box 0 _ rfl
 have n1 : (w.alloc (ae n)).cell? (aV w.heap.size 1) = some (.slice n.namA n.names.length n.namC) := HNP.out.box 1 _ rfl
 have n2 : (w.alloc (ae n)).cell? (aV w.heap.size 2) = some (.slice n.opA n.ops.length n.opC) := HNP.out.box 2 _ rfl
 have n3 : (w.alloc (ae n)).cell? (aV w.heap.size 3) = some (.slice n.offA n.offs.length n.offC) := HNP.out.box 3 _ rfl
 have n4 : (w.alloc (ae n)).cell? (aV w.heap.size 4) = some (.slice n.linA n.lins.length n.linC) := HNP.out.box 4 _ rfl
 have n5 : (w.alloc (ae n)).cell? (aV w.heap.size 5) = some (.slice n.clsA n.clss.length n.clsC) := HNP.out.box 5 _ rfl
 clear hn hf hb0 hx0
 go_enter Tryz.func198, Tryz.ntmps198
 go_upto_region 1 with fail
 change Code.wp _ _ _ _ (w.alloc (ae n))
 generalize (w.alloc (ae n)) = W at *
 go_wp2_with fail
 refine (mN n _ HNP.out.net HF.out).mono ?_
 rintro e w1 ⟨A, m, c, xs, rfl, -, -, hm, hmb, hb⟩
 have HM := aB hm
 have HB := aB hb
 clear hm hb n0 n1 n2 n3 n4 n5
 by_cases h0 : m = 0
 ·subst h0
  have HC : Hid (jB n) := HM.out.1 rfl
  go_wp2_with fail
  go_ret
  exact ⟨⟨true, rfl, ⟨fun _ => HC.out, fun _ => rfl⟩⟩, bt HB0.out HB.out⟩
 ·have e1 : ((m : Int) == 0) = false := by simp; omega
  have HC : Hid (¬ jB n) := fun h => h0 (HM.out.2 h)
  clear h0
  go_wp2_with fail
  go_ret
  exact ⟨⟨false, rfl, ⟨(fun h => by cases h), fun h => absurd h HC.out⟩⟩, bt HB0.out HB.out⟩
end Go.Proofs.YtpeaiphdkgifaaaGreatDoor
