/- The walk over survey.inconsistencies. Distances between offices in -/
import Derived.Test.YtpeaiphdkgifaaaGreatDoorVaf
import Derived.Test.YtpeaiphdkgifaaaGreatDoorVag
import Derived.Test.YtpeaiphdkgifaaaGreatDoorVaa
namespace Go.Proofs.YtpeaiphdkgifaaaGreatDoor
open Go.RowKit
set_option maxHeartbeats 20000000
set_option maxRecDepth 100000
structure jB (n : Net) : Prop where
 same : n.names.length = n.cals.length
 cal : n.cals.length <= 6 /\ ∀ i < n.cals.length, cB (eM n) du n.cals i
 op : n.ops.length <= 6 /\ ∀ i < n.ops.length, cB (pR n) (fun _ => true) n.ops i
 off : n.offs.length <= 12 /\ ∀ i < n.offs.length, cB (kp n) (ct n) n.offs i
 lin : n.lins.length <= 40 /\ ∀ i < n.lins.length, cB (kq n) (eY n) n.lins i
 cls : n.clss.length <= 4 /\ ∀ i < n.clss.length, cB (kr n) kG n.clss i
def rY (w : World) (ok : Prop) (e : Ending) (w' : World) : Prop :=
 ∃ A m c xs, e = .returned (.slice A m c) /\ w'.ownsRow w.heap.size 150 3 (.slice A m c) m xs /\ (∀ x ∈ xs, x.oneCell' = true) /\ (m = 0 ↔ ok) /\ m <= 300 /\ Below w.heap.size w w'
theorem fw {P : Program} {w : World} {base : Nat} {e tx e' : TypeId} {size : Nat} {A : Option Addr} {m c : Nat} {xs : List Value} (hk : P.underlying tx = some (.slice e')) (h : w.ownsRow base e size (.slice A m c) m xs) (h1 : ∀ u ∈ xs, u.oneCell' = true) : Src P size tx (.slice A m c) m xs w := by
 have hl := h.1
 rcases h.2 with ⟨hv, h0⟩ | ⟨g, cap, cur, hv, hb, hg, hc, hm, hs, ht⟩
 ·cases hv
  have : xs = [] := List.eq_nil_of_length_eq_zero (by simpa using hl)
  subst this
  exact Src.ofNil w hk 0
 ·cases hv
  exact Src.ofSlice w hk (aV g 0) m c xs hl (fun j u hu => h.cells (g := g) rfl j u hu) h1
theorem fx {xs ys : List Value} (h : ∀ x ∈ xs, x.oneCell' = true) (k : ∀ x ∈ ys, x.oneCell' = true) : ∀ x ∈ xs ++ ys, x.oneCell' = true := fun x hx => (List.mem_append.1 hx).elim (h x) (k x)
theorem vC {w : World} {n : Net} (h : bj w n) : (∀ i, (eM n i).length <= maxLen) /\ (∀ i, (pR n i).length <= maxLen) /\ (∀ i, (kp n i).length <= maxLen) /\ (∀ i, (kq n i).length <= maxLen) /\ ∀ i, (kr n i).length <= maxLen := by
 have g : ∀ {l : List (List UInt8)}, (∀ s ∈ l, s.length <= maxLen) -> ∀ i, (l.getD i []).length <= maxLen := by
  intro l hl i
  by_cases hi : i < l.length
  ·have : l.getD i [] = l[i] := by simp [List.getD, hi]
   rw [this]; exact hl _ (List.getElem_mem hi)
  ·have : l.getD i [] = [] := by simp [List.getD, hi]
   rw [this]; exact Nat.zero_le _
 refine ⟨g h.name, g h.op, fun i => ?_, fun i => ?_, fun i => ?_⟩
 ·by_cases hi : i < n.offs.length
  ·exact (h.off _ (aF (bd hi))).1.1
  ·have : ap n i = zOff := by unfold ap; simp [List.getD, hi]
   unfold kp; rw [this]; exact Nat.zero_le _
 ·by_cases hi : i < n.lins.length
  ·exact (h.lin _ (aF (bC hi))).1
  ·have : af n i = zLin := by unfold af; simp [List.getD, hi]
   unfold kq; rw [this]; exact Nat.zero_le _
 ·by_cases hi : i < n.clss.length
  ·exact (h.cls _ (aF (bX hi))).1
  ·have : aw n i = zCls := by unfold aw; simp [List.getD, hi]
   unfold kr; rw [this]; exact Nat.zero_le _
theorem eU {m p : Nat} {P Q : Prop} (h : m = 0 ↔ P) (k : p = 0 ↔ Q) : m + p = 0 ↔ P /\ Q :=
 ⟨fun e => ⟨h.1 (by omega), k.1 (by omega)⟩, fun ⟨a, b⟩ => by have := h.2 a; have := k.2 b; omega⟩
theorem uL {p : Nat} {P Q : Prop} (h : P) (k : p = 0 ↔ Q) : p = 0 ↔ P /\ Q := ⟨fun e => ⟨h, k.1 e⟩, fun ⟨_, b⟩ => k.2 b⟩
theorem cW {w W wr : World} {X : Nat} {n : Net} (hn : bj w n) (hX : w.heap.size = X) (h0 : Below X w W) (hx : ∀ i v, (iW n)[i]? = some v -> W.cell? (aV X i) = some v) (hb : Below (X + 1) W wr) : Below w.heap.size w wr /\ br wr X n := by
 have h1 : Below w.heap.size w wr := by rw [hX]; exact h0.trans (hb.mono (by omega))
 exact ⟨h1, fun i v hv => (hb.cell (p := (aV X i)) (Nat.lt_succ_self _)).trans (hx i v hv), hn.below h1⟩
theorem uo (n : Net) (w : World) (hn : bj w n) (hk : KW w) :
  Calls Tryz.prog 50 #[bB n] w (rY w (jB n)) := by
 obtain ⟨i0, hi0, hz0, hz1, hz2⟩ := info_parts mK
 have hb0 := ba w (ae n)
 have hl := hn.lens
 have HL := aB hl
 unfold maxLen at hl
 have HNM := aB (vC hn)
 have hx0 := aC w (ae n)
 have HNP : Hid (br (w.alloc (ae n)) w.heap.size n) := ⟨fun i v hv => (aA _ hx0).trans hv, hn.below hb0⟩
 have HK := aB hk
 have HNW := aB hn
 have HB0 := aB hb0
 have HWL : Hid (w.heap.size + 1 <= (w.alloc (ae n)).heap.size) := aa hx0
 clear hn hk hb0 hx0
 by_cases hsame : n.names.length = n.cals.length
 ·have s1 : ((n.names.length : Int) != (n.cals.length : Int)) = false := by simp; omega
  have s2 : ((n.names.length : Int) == (n.cals.length : Int)) = true := by simp; omega
  have HS := aB hsame; clear hsame
  go_enter Tryz.func50, Tryz.ntmps50
  go_upto_region 1 with fail
  change Code.wp _ _ _ _ (w.alloc (ae n))
  generalize (w.alloc (ae n)) = W at *
  generalize hX : w.heap.size = X at *
  have HX := aB hX; clear hX
  have HNB : Hid (∀ wr, Below (X + 1) W wr -> Below w.heap.size w wr /\ br wr X n) := fun wr hb => cW HNW.out HX.out HB0.out HNP.out.box hb
  have HO0 : Hid (W.ownsRow (X + 1) 150 3 (.slice none 0 0) 0 []) := World.ownsRow_nil _ _ _ _
  have HBB0 : Hid (Below (X + 1) W W) := aJ _ _
  have HI0 : Hid (∀ x ∈ ([] : List Value), x.oneCell' = true) := fun x hx => by cases hx
  have n0 : W.cell? (aV X 0) = some (.slice n.calA n.cals.length n.calC) := HNP.out.box 0 _ rfl
  have n1 : W.cell? (aV X 1) = some (.slice n.namA n.names.length n.namC) := HNP.out.box 1 _ rfl
  have HP0 : Hid (br W X n) := (HNB.out _ HBB0.out).2
  go_wp2_with fail
  refine (nY 1 6 109 111 #[.pointer (some (aV X 0))] #[] (eM n) du n.cals n.calA n.calC _ (fun i hi w' hb => lJ X n i w' (HP0.out.below hb)) (fun x hx w' hb => dU x w' ((HP0.out.net.cal x hx).below hb)) (HK.out.below (HNB.out _ HBB0.out).1) HL.out.1 (by omega) (fun i _ => HNM.out.1 i) (HP0.out.net.cals) (fun _ _ => rfl) (fun _ _ => rfl)).mono ?_
  rintro e v0 ⟨B0, p0, d0, ys0, rfl, ho, h1, hm, hmb, hb⟩
  have HV0 := aB (HBB0.out.trans (hb.mono (aG HWL.out HBB0.out.size)))
  have HOA0 := aB (aq HO0.out hb)
  have HOB0 := aB ho
  have H10 := aB h1
  have HM0 := aB hm
  clear ho h1 hm hb n0
  clear n1
  go_wp2_with (refine bg (by rfl) (.tmp 21) (.tmp 25) 85 85 (by rfl) (X + 1) 150 i0 _ 3 24 Tryz.underlying85 hi0 hz0 hz1 hz2 (by rfl) _ (0) ([]) (by rfl) HOA0.out _ (by rfl) p0 ys0 (fw Tryz.underlying85 HOB0.out H10.out) (by unfold maxLen; omega) (by omega) (aG HWL.out HV0.out.size) ?_; intro A1' c1' w1' ho hgr hbl; rw [Nat.zero_add] at ho; have HO1 := aB ho; have HBB1 := aB (bp HV0.out HWL.out HOA0.out (aH _) hgr); clear ho hgr hbl; have n2 : w1'.cell? (aV X 2) = some (.slice n.opA n.ops.length n.opC) := (HNB.out _ HBB1.out).2.box 2 _ rfl)
  have HI1 := aB (fx HI0.out H10.out)
  have HQ1 := aB (uL HS.out HM0.out)
  clear HOA0 HOB0 HO0 HBB0 HI0 HP0 HV0
  have HP1 : Hid (br w1' X n) := (HNB.out _ HBB1.out).2
  go_wp2_with fail
  refine (qv 2 6 112 114 #[.pointer (some (aV X 0))] #[] (pR n) (fun _ => true) n.ops n.opA n.opC _ (fun i hi w' hb => mt X n i w' (HP1.out.below hb) hi) (fun x hx w' hb => mu x w') (HK.out.below (HNB.out _ HBB1.out).1) HL.out.2.2.1 (by omega) (fun i _ => HNM.out.2.1 i) (by rw [kU]; exact HP1.out.net.ops) (fun _ _ => rfl) (fun _ _ => rfl)).mono ?_
  rintro e v1 ⟨B1, p1, d1, ys1, rfl, ho, h1, hm, hmb, hb⟩
  have HV1 := aB (HBB1.out.trans (hb.mono (aG HWL.out HBB1.out.size)))
  have HOA1 := aB (aq HO1.out hb)
  have HOB1 := aB ho
  have H11 := aB h1
  have HM1 := aB hm
  clear ho h1 hm hb n2
  go_wp2_with (refine bg (by rfl) (.tmp 28) (.tmp 32) 85 85 (by rfl) (X + 1) 150 i0 _ 3 24 Tryz.underlying85 hi0 hz0 hz1 hz2 (by rfl) _ (p0) ([] ++ ys0) (by rfl) HOA1.out _ (by rfl) p1 ys1 (fw Tryz.underlying85 HOB1.out H11.out) (by unfold maxLen; omega) (by omega) (aG HWL.out HV1.out.size) ?_; intro A2' c2' w2' ho hgr hbl; have HO2 := aB ho; have HBB2 := aB (bp HV1.out HWL.out HOA1.out (aH _) hgr); clear ho hgr hbl; have n3 : w2'.cell? (aV X 3) = some (.slice n.offA n.offs.length n.offC) := (HNB.out _ HBB2.out).2.box 3 _ rfl)
  have HI2 := aB (fx HI1.out H11.out)
  have HQ2 := aB (eU HQ1.out HM1.out)
  clear HOA1 HOB1 HO1 HBB1 HI1 HP1 HV1
  have HP2 : Hid (br w2' X n) := (HNB.out _ HBB2.out).2
  go_wp2_with fail
  refine (nV 3 12 115 117 #[.pointer (some (aV X 0))] #[.pointer (some (aV X 0))] (kp n) (ct n) n.offs n.offA n.offC _ (fun i hi w' hb => lr X n i w' (HP2.out.below hb) hi) (fun x hx w' hb => ls X n x w' (HP2.out.below hb) ((HP2.out.net.off x hx).below hb)) (HK.out.below (HNB.out _ HBB2.out).1) HL.out.2.2.2.1 (by omega) (fun i _ => HNM.out.2.2.1 i) (HP2.out.net.offs) (fun _ _ => rfl) (fun _ _ => rfl)).mono ?_
  rintro e v2 ⟨B2, p2, d2, ys2, rfl, ho, h1, hm, hmb, hb⟩
  have HV2 := aB (HBB2.out.trans (hb.mono (aG HWL.out HBB2.out.size)))
  have HOA2 := aB (aq HO2.out hb)
  have HOB2 := aB ho
  have H12 := aB h1
  have HM2 := aB hm
  clear ho h1 hm hb n3
  go_wp2_with (refine bg (by rfl) (.tmp 35) (.tmp 40) 85 85 (by rfl) (X + 1) 150 i0 _ 3 24 Tryz.underlying85 hi0 hz0 hz1 hz2 (by rfl) _ (p0 + p1) ([] ++ ys0 ++ ys1) (by rfl) HOA2.out _ (by rfl) p2 ys2 (fw Tryz.underlying85 HOB2.out H12.out) (by unfold maxLen; omega) (by omega) (aG HWL.out HV2.out.size) ?_; intro A3' c3' w3' ho hgr hbl; have HO3 := aB ho; have HBB3 := aB (bp HV2.out HWL.out HOA2.out (aH _) hgr); clear ho hgr hbl; have n4 : w3'.cell? (aV X 4) = some (.slice n.linA n.lins.length n.linC) := (HNB.out _ HBB3.out).2.box 4 _ rfl)
  have HI3 := aB (fx HI2.out H12.out)
  have HQ3 := aB (eU HQ2.out HM2.out)
  clear HOA2 HOB2 HO2 HBB2 HI2 HP2 HV2
  have HP3 : Hid (br w3' X n) := (HNB.out _ HBB3.out).2
  go_wp2_with fail
  refine (nW 4 40 119 121 #[.pointer (some (aV X 0))] #[.pointer (some (aV X 0))] (kq n) (eY n) n.lins n.linA n.linC _ (fun i hi w' hb => lz X n i w' (HP3.out.below hb) hi) (fun x hx w' hb => lD X n x w' (HP3.out.below hb)) (HK.out.below (HNB.out _ HBB3.out).1) HL.out.2.2.2.2.1 (by omega) (fun i _ => HNM.out.2.2.2.1 i) (HP3.out.net.lins) (fun _ _ => rfl) (fun _ _ => rfl)).mono ?_
  rintro e v3 ⟨B3, p3, d3, ys3, rfl, ho, h1, hm, hmb, hb⟩
  have HV3 := aB (HBB3.out.trans (hb.mono (aG HWL.out HBB3.out.size)))
  have HOA3 := aB (aq HO3.out hb)
  have HOB3 := aB ho
  have H13 := aB h1
  have HM3 := aB hm
  clear ho h1 hm hb n4
  go_wp2_with (refine bg (by rfl) (.tmp 43) (.tmp 48) 85 85 (by rfl) (X + 1) 150 i0 _ 3 24 Tryz.underlying85 hi0 hz0 hz1 hz2 (by rfl) _ (p0 + p1 + p2) ([] ++ ys0 ++ ys1 ++ ys2) (by rfl) HOA3.out _ (by rfl) p3 ys3 (fw Tryz.underlying85 HOB3.out H13.out) (by unfold maxLen; omega) (by omega) (aG HWL.out HV3.out.size) ?_; intro A4' c4' w4' ho hgr hbl; have HO4 := aB ho; have HBB4 := aB (bp HV3.out HWL.out HOA3.out (aH _) hgr); clear ho hgr hbl; have n5 : w4'.cell? (aV X 5) = some (.slice n.clsA n.clss.length n.clsC) := (HNB.out _ HBB4.out).2.box 5 _ rfl)
  have HI4 := aB (fx HI3.out H13.out)
  have HQ4 := aB (eU HQ3.out HM3.out)
  clear HOA3 HOB3 HO3 HBB3 HI3 HP3 HV3
  have HP4 : Hid (br w4' X n) := (HNB.out _ HBB4.out).2
  go_wp2_with fail
  refine (nX 5 4 123 125 #[.pointer (some (aV X 0))] #[] (kr n) kG n.clss n.clsA n.clsC _ (fun i hi w' hb => lH X n i w' (HP4.out.below hb) hi) (fun x hx w' hb => lI x w') (HK.out.below (HNB.out _ HBB4.out).1) HL.out.2.2.2.2.2 (by omega) (fun i _ => HNM.out.2.2.2.2 i) (HP4.out.net.clss) (fun _ _ => rfl) (fun _ _ => rfl)).mono ?_
  rintro e v4 ⟨B4, p4, d4, ys4, rfl, ho, h1, hm, hmb, hb⟩
  have HV4 := aB (HBB4.out.trans (hb.mono (aG HWL.out HBB4.out.size)))
  have HOA4 := aB (aq HO4.out hb)
  have HOB4 := aB ho
  have H14 := aB h1
  have HM4 := aB hm
  clear ho h1 hm hb n5
  go_wp2_with (refine bg (by rfl) (.tmp 51) (.tmp 55) 85 85 (by rfl) (X + 1) 150 i0 _ 3 24 Tryz.underlying85 hi0 hz0 hz1 hz2 (by rfl) _ (p0 + p1 + p2 + p3) ([] ++ ys0 ++ ys1 ++ ys2 ++ ys3) (by rfl) HOA4.out _ (by rfl) p4 ys4 (fw Tryz.underlying85 HOB4.out H14.out) (by unfold maxLen; omega) (by omega) (aG HWL.out HV4.out.size) ?_; intro A5' c5' w5' ho hgr hbl; have HO5 := aB ho; have HBB5 := aB (bp HV4.out HWL.out HOA4.out (aH _) hgr); clear ho hgr hbl)
  have HI5 := aB (fx HI4.out H14.out)
  have HQ5 := aB (eU HQ4.out HM4.out)
  clear HOA4 HOB4 HO4 HBB4 HI4 HP4 HV4
  go_ret
  exact ⟨_, _, _, _, rfl, cn HO5.out (by have := HX.out; omega), HI5.out, HQ5.out.trans ⟨fun h => ⟨h.1.1.1.1.1, h.1.1.1.1.2, h.1.1.1.2, h.1.1.2, h.1.2, h.2⟩, fun h => ⟨⟨⟨⟨⟨h.same, h.cal⟩, h.op⟩, h.off⟩, h.lin⟩, h.cls⟩⟩, by omega, (HNB.out _ HBB5.out).1⟩
 ·have s1 : ((n.names.length : Int) != (n.cals.length : Int)) = true := by simp; omega
  have s2 : ((n.names.length : Int) == (n.cals.length : Int)) = false := by simp; omega
  have HS := aB hsame; clear hsame
  go_enter Tryz.func50, Tryz.ntmps50
  go_upto_region 1 with fail
  change Code.wp _ _ _ _ (w.alloc (ae n))
  generalize (w.alloc (ae n)) = W at *
  generalize hX : w.heap.size = X at *
  have HX := aB hX; clear hX
  have HNB : Hid (∀ wr, Below (X + 1) W wr -> Below w.heap.size w wr /\ br wr X n) := fun wr hb => cW HNW.out HX.out HB0.out HNP.out.box hb
  have n0 : W.cell? (aV X 0) = some (.slice n.calA n.cals.length n.calC) := HNP.out.box 0 _ rfl
  have n1 : W.cell? (aV X 1) = some (.slice n.namA n.names.length n.namC) := HNP.out.box 1 _ rfl
  go_upto_region 4 with (refine bg (by rfl) (.tmp 16) (.tmp 18) 85 85 (by rfl) (X + 1) 150 i0 _ 3 24 Tryz.underlying85 hi0 hz0 hz1 hz2 (by rfl) _ 0 [] (by rfl) (World.ownsRow_nil _ _ _ _) _ (by rfl) 1 [iV 1, iV (-1), iV 1] (fB 3 Tryz.underlying85 (Rd.new _ [iV 1, iV (-1), iV 1] _) rfl (by simp [Value.oneCell'])) (by unfold maxLen; omega) (by omega) (by have := HWL.out; simp; omega) ?_; intro A0 c0 w0 ho hgr hbl; have HO0 := aB ho; have HBB0 := aB (bp ((aJ (X + 1) W).alloc HWL.out _) HWL.out (World.ownsRow_nil _ (X + 1) 150 3) (aH _) hgr); clear ho hgr hbl)
  have HI0 : Hid (∀ x ∈ ([] ++ [iV 1, iV (-1), iV 1] : List Value), x.oneCell' = true) := by
   intro x hx
   simp at hx
   rcases hx with rfl | rfl | rfl <;> rfl
  have HQ0 : Hid (0 + 1 = 0 ↔ n.names.length = n.cals.length) := ⟨fun h => by omega, fun h => absurd h HS.out⟩
  have e0 : 0 + 1 <= 1 := by omega
  clear n0 n1
  have n0 : w0.cell? (aV X 0) = some (.slice n.calA n.cals.length n.calC) := (HBB0.out.cell (p := (aV X 0)) (Nat.lt_succ_self _)).trans (HNP.out.box 0 _ rfl)
  have HP0 : Hid (br w0 X n) := (HNB.out _ HBB0.out).2
  go_wp2_with fail
  refine (nY 1 6 109 111 #[.pointer (some (aV X 0))] #[] (eM n) du n.cals n.calA n.calC _ (fun i hi w' hb => lJ X n i w' (HP0.out.below hb)) (fun x hx w' hb => dU x w' ((HP0.out.net.cal x hx).below hb)) (HK.out.below (HNB.out _ HBB0.out).1) HL.out.1 (by omega) (fun i _ => HNM.out.1 i) (HP0.out.net.cals) (fun _ _ => rfl) (fun _ _ => rfl)).mono ?_
  rintro e v0 ⟨B0, p0, d0, ys0, rfl, ho, h1, hm, hmb, hb⟩
  have HV0 := aB (HBB0.out.trans (hb.mono (aG HWL.out HBB0.out.size)))
  have HOA0 := aB (aq HO0.out hb)
  have HOB0 := aB ho
  have H10 := aB h1
  have HM0 := aB hm
  clear ho h1 hm hb n0
  go_wp2_with (refine bg (by rfl) (.tmp 21) (.tmp 25) 85 85 (by rfl) (X + 1) 150 i0 _ 3 24 Tryz.underlying85 hi0 hz0 hz1 hz2 (by rfl) _ (0 + 1) ([] ++ [iV 1, iV (-1), iV 1]) (by rfl) HOA0.out _ (by rfl) p0 ys0 (fw Tryz.underlying85 HOB0.out H10.out) (by unfold maxLen; omega) (by omega) (aG HWL.out HV0.out.size) ?_; intro A1' c1' w1' ho hgr hbl; have HO1 := aB ho; have HBB1 := aB (bp HV0.out HWL.out HOA0.out (aH _) hgr); clear ho hgr hbl; have n2 : w1'.cell? (aV X 2) = some (.slice n.opA n.ops.length n.opC) := (HNB.out _ HBB1.out).2.box 2 _ rfl)
  have HI1 := aB (fx HI0.out H10.out)
  have HQ1 := aB (eU HQ0.out HM0.out)
  clear HOA0 HOB0 HO0 HBB0 HI0 HP0 HV0
  have HP1 : Hid (br w1' X n) := (HNB.out _ HBB1.out).2
  go_wp2_with fail
  refine (qv 2 6 112 114 #[.pointer (some (aV X 0))] #[] (pR n) (fun _ => true) n.ops n.opA n.opC _ (fun i hi w' hb => mt X n i w' (HP1.out.below hb) hi) (fun x hx w' hb => mu x w') (HK.out.below (HNB.out _ HBB1.out).1) HL.out.2.2.1 (by omega) (fun i _ => HNM.out.2.1 i) (by rw [kU]; exact HP1.out.net.ops) (fun _ _ => rfl) (fun _ _ => rfl)).mono ?_
  rintro e v1 ⟨B1, p1, d1, ys1, rfl, ho, h1, hm, hmb, hb⟩
  have HV1 := aB (HBB1.out.trans (hb.mono (aG HWL.out HBB1.out.size)))
  have HOA1 := aB (aq HO1.out hb)
  have HOB1 := aB ho
  have H11 := aB h1
  have HM1 := aB hm
  clear ho h1 hm hb n2
  go_wp2_with (refine bg (by rfl) (.tmp 28) (.tmp 32) 85 85 (by rfl) (X + 1) 150 i0 _ 3 24 Tryz.underlying85 hi0 hz0 hz1 hz2 (by rfl) _ (0 + 1 + p0) ([] ++ [iV 1, iV (-1), iV 1] ++ ys0) (by rfl) HOA1.out _ (by rfl) p1 ys1 (fw Tryz.underlying85 HOB1.out H11.out) (by unfold maxLen; omega) (by omega) (aG HWL.out HV1.out.size) ?_; intro A2' c2' w2' ho hgr hbl; have HO2 := aB ho; have HBB2 := aB (bp HV1.out HWL.out HOA1.out (aH _) hgr); clear ho hgr hbl; have n3 : w2'.cell? (aV X 3) = some (.slice n.offA n.offs.length n.offC) := (HNB.out _ HBB2.out).2.box 3 _ rfl)
  have HI2 := aB (fx HI1.out H11.out)
  have HQ2 := aB (eU HQ1.out HM1.out)
  clear HOA1 HOB1 HO1 HBB1 HI1 HP1 HV1
  have HP2 : Hid (br w2' X n) := (HNB.out _ HBB2.out).2
  go_wp2_with fail
  refine (nV 3 12 115 117 #[.pointer (some (aV X 0))] #[.pointer (some (aV X 0))] (kp n) (ct n) n.offs n.offA n.offC _ (fun i hi w' hb => lr X n i w' (HP2.out.below hb) hi) (fun x hx w' hb => ls X n x w' (HP2.out.below hb) ((HP2.out.net.off x hx).below hb)) (HK.out.below (HNB.out _ HBB2.out).1) HL.out.2.2.2.1 (by omega) (fun i _ => HNM.out.2.2.1 i) (HP2.out.net.offs) (fun _ _ => rfl) (fun _ _ => rfl)).mono ?_
  rintro e v2 ⟨B2, p2, d2, ys2, rfl, ho, h1, hm, hmb, hb⟩
  have HV2 := aB (HBB2.out.trans (hb.mono (aG HWL.out HBB2.out.size)))
  have HOA2 := aB (aq HO2.out hb)
  have HOB2 := aB ho
  have H12 := aB h1
  have HM2 := aB hm
  clear ho h1 hm hb n3
  go_wp2_with (refine bg (by rfl) (.tmp 35) (.tmp 40) 85 85 (by rfl) (X + 1) 150 i0 _ 3 24 Tryz.underlying85 hi0 hz0 hz1 hz2 (by rfl) _ (0 + 1 + p0 + p1) ([] ++ [iV 1, iV (-1), iV 1] ++ ys0 ++ ys1) (by rfl) HOA2.out _ (by rfl) p2 ys2 (fw Tryz.underlying85 HOB2.out H12.out) (by unfold maxLen; omega) (by omega) (aG HWL.out HV2.out.size) ?_; intro A3' c3' w3' ho hgr hbl; have HO3 := aB ho; have HBB3 := aB (bp HV2.out HWL.out HOA2.out (aH _) hgr); clear ho hgr hbl; have n4 : w3'.cell? (aV X 4) = some (.slice n.linA n.lins.length n.linC) := (HNB.out _ HBB3.out).2.box 4 _ rfl)
  have HI3 := aB (fx HI2.out H12.out)
  have HQ3 := aB (eU HQ2.out HM2.out)
  clear HOA2 HOB2 HO2 HBB2 HI2 HP2 HV2
  have HP3 : Hid (br w3' X n) := (HNB.out _ HBB3.out).2
  go_wp2_with fail
  refine (nW 4 40 119 121 #[.pointer (some (aV X 0))] #[.pointer (some (aV X 0))] (kq n) (eY n) n.lins n.linA n.linC _ (fun i hi w' hb => lz X n i w' (HP3.out.below hb) hi) (fun x hx w' hb => lD X n x w' (HP3.out.below hb)) (HK.out.below (HNB.out _ HBB3.out).1) HL.out.2.2.2.2.1 (by omega) (fun i _ => HNM.out.2.2.2.1 i) (HP3.out.net.lins) (fun _ _ => rfl) (fun _ _ => rfl)).mono ?_
  rintro e v3 ⟨B3, p3, d3, ys3, rfl, ho, h1, hm, hmb, hb⟩
  have HV3 := aB (HBB3.out.trans (hb.mono (aG HWL.out HBB3.out.size)))
  have HOA3 := aB (aq HO3.out hb)
  have HOB3 := aB ho
  have H13 := aB h1
  have HM3 := aB hm
  clear ho h1 hm hb n4
  go_wp2_with (refine bg (by rfl) (.tmp 43) (.tmp 48) 85 85 (by rfl) (X + 1) 150 i0 _ 3 24 Tryz.underlying85 hi0 hz0 hz1 hz2 (by rfl) _ (0 + 1 + p0 + p1 + p2) ([] ++ [iV 1, iV (-1), iV 1] ++ ys0 ++ ys1 ++ ys2) (by rfl) HOA3.out _ (by rfl) p3 ys3 (fw Tryz.underlying85 HOB3.out H13.out) (by unfold maxLen; omega) (by omega) (aG HWL.out HV3.out.size) ?_; intro A4' c4' w4' ho hgr hbl; have HO4 := aB ho; have HBB4 := aB (bp HV3.out HWL.out HOA3.out (aH _) hgr); clear ho hgr hbl; have n5 : w4'.cell? (aV X 5) = some (.slice n.clsA n.clss.length n.clsC) := (HNB.out _ HBB4.out).2.box 5 _ rfl)
  have HI4 := aB (fx HI3.out H13.out)
  have HQ4 := aB (eU HQ3.out HM3.out)
  clear HOA3 HOB3 HO3 HBB3 HI3 HP3 HV3
  have HP4 : Hid (br w4' X n) := (HNB.out _ HBB4.out).2
  go_wp2_with fail
  refine (nX 5 4 123 125 #[.pointer (some (aV X 0))] #[] (kr n) kG n.clss n.clsA n.clsC _ (fun i hi w' hb => lH X n i w' (HP4.out.below hb) hi) (fun x hx w' hb => lI x w') (HK.out.below (HNB.out _ HBB4.out).1) HL.out.2.2.2.2.2 (by omega) (fun i _ => HNM.out.2.2.2.2 i) (HP4.out.net.clss) (fun _ _ => rfl) (fun _ _ => rfl)).mono ?_
  rintro e v4 ⟨B4, p4, d4, ys4, rfl, ho, h1, hm, hmb, hb⟩
  have HV4 := aB (HBB4.out.trans (hb.mono (aG HWL.out HBB4.out.size)))
  have HOA4 := aB (aq HO4.out hb)
  have HOB4 := aB ho
  have H14 := aB h1
  have HM4 := aB hm
  clear ho h1 hm hb n5
  go_wp2_with (refine bg (by rfl) (.tmp 51) (.tmp 55) 85 85 (by rfl) (X + 1) 150 i0 _ 3 24 Tryz.underlying85 hi0 hz0 hz1 hz2 (by rfl) _ (0 + 1 + p0 + p1 + p2 + p3) ([] ++ [iV 1, iV (-1), iV 1] ++ ys0 ++ ys1 ++ ys2 ++ ys3) (by rfl) HOA4.out _ (by rfl) p4 ys4 (fw Tryz.underlying85 HOB4.out H14.out) (by unfold maxLen; omega) (by omega) (aG HWL.out HV4.out.size) ?_; intro A5' c5' w5' ho hgr hbl; have HO5 := aB ho; have HBB5 := aB (bp HV4.out HWL.out HOA4.out (aH _) hgr); clear ho hgr hbl)
  have HI5 := aB (fx HI4.out H14.out)
  have HQ5 := aB (eU HQ4.out HM4.out)
  clear HOA4 HOB4 HO4 HBB4 HI4 HP4 HV4
  go_ret
  exact ⟨_, _, _, _, rfl, cn HO5.out (by have := HX.out; omega), HI5.out, HQ5.out.trans ⟨fun h => ⟨h.1.1.1.1.1, h.1.1.1.1.2, h.1.1.1.2, h.1.1.2, h.1.2, h.2⟩, fun h => ⟨⟨⟨⟨⟨h.same, h.cal⟩, h.op⟩, h.off⟩, h.lin⟩, h.cls⟩⟩, by omega, (HNB.out _ HBB5.out).1⟩
abbrev Mat := Nat -> Nat -> Int
def mX (M : Mat) (a b : Nat) (L : Int) : Mat := fun x y => if x = a /\ y = b then L else M x y
def cy (M : Mat) (a b : Nat) (L : Int) : Mat := if M a b = -1 ∨ L < M a b then mX M a b L else M
def lj (k a : Nat) (M : Mat) (b : Nat) : Mat := if M a k ≠ -1 /\ M k b ≠ -1 then cy M a b (M a k + M k b) else M
def iM (k a m : Nat) (M : Mat) : Mat := (List.range m).foldl (lj k a) M
def cR (k m : Nat) (M : Mat) : Mat := (List.range m).foldl (fun M a => iM k a 12 M) M
def fF (m : Nat) (M : Mat) : Mat := (List.range m).foldl (fun M k => cR k 12 M) M
def jC : Mat := fun a b => if a = b then 0 else -1
def bL (es : List (Nat × Nat × Int)) : Mat := es.foldl (fun M e => cy M e.1 e.2.1 e.2.2) jC
theorem nt (k a m : Nat) (M : Mat) : iM k a (m + 1) M = lj k a (iM k a m M) m := by simp [iM, List.range_succ]
theorem lk (k m : Nat) (M : Mat) : cR k (m + 1) M = iM k m 12 (cR k m M) := by simp [cR, List.range_succ]
theorem oh (m : Nat) (M : Mat) : fF (m + 1) M = cR m 12 (fF m M) := by simp [fF, List.range_succ]
inductive Wlk (es : List (Nat × Nat × Int)) : Nat -> Nat -> Int -> Prop
 | nil (a : Nat) : Wlk es a a 0
 | cons {a b c : Nat} {L K : Int} (h : (a, b, L) ∈ es) (t : Wlk es b c K) : Wlk es a c (L + K)
theorem Wlk.trans {es : List (Nat × Nat × Int)} {a b c : Nat} {L K : Int} (h : Wlk es a b L) (k : Wlk es b c K) : Wlk es a c (L + K) := by
 induction h with
 | nil a => simpa using k
 | cons h t ih => have := Wlk.cons h (ih k); rwa [Int.add_assoc]
def Dk (es : List (Nat × Nat × Int)) : Nat -> Nat -> Nat -> Int -> Prop
 | 0, a, b, L => (a = b /\ L = 0) ∨ (a, b, L) ∈ es
 | k + 1, a, b, L => Dk es k a b L ∨ ∃ L1 L2, Dk es k a k L1 /\ Dk es k k b L2 /\ L = L1 + L2
def fA (es : List (Nat × Nat × Int)) (B : Int) : Prop := ∀ e ∈ es, e.1 < 12 /\ e.2.1 < 12 /\ 0 <= e.2.2 /\ e.2.2 <= B
theorem Dk.nonneg {es : List (Nat × Nat × Int)} {B : Int} (he : fA es B) : ∀ {k a b : Nat} {L : Int}, Dk es k a b L -> 0 <= L
 | 0, a, b, L, h => by
  rcases h with ⟨_, rfl⟩ | h
  ·exact Int.le_refl _
  ·exact (he _ h).2.2.1
 | k + 1, a, b, L, h => by
  rcases h with h | ⟨L1, L2, h1, h2, rfl⟩
  ·exact Dk.nonneg he h
  ·have := Dk.nonneg he h1
   have := Dk.nonneg he h2
   omega
theorem Dk.up {es : List (Nat × Nat × Int)} {a b : Nat} {L : Int} : ∀ {k m : Nat}, k <= m -> Dk es k a b L -> Dk es m a b L
 | k, 0, hk, h => by obtain rfl : k = 0 := by omega
                     exact h
 | k, m + 1, hk, h => by
  rcases Nat.lt_or_ge m k with h1 | h1
  ·obtain rfl : k = m + 1 := by omega
   exact h
  ·exact .inl (Dk.up h1 h)
def Pk (es : List (Nat × Nat × Int)) (k a b : Nat) (L : Int) : Prop := ∃ K, K <= L /\ Dk es k a b K
theorem Pk.of {es : List (Nat × Nat × Int)} {k a b : Nat} {L : Int} (h : Dk es k a b L) : Pk es k a b L := ⟨L, Int.le_refl _, h⟩
theorem Pk.le {es : List (Nat × Nat × Int)} {k a b : Nat} {L K : Int} (h : Pk es k a b L) (hk : L <= K) : Pk es k a b K := by
 obtain ⟨X, h1, h2⟩ := h
 exact ⟨X, by omega, h2⟩
theorem Pk.succ {es : List (Nat × Nat × Int)} {k a b : Nat} {L : Int} (h : Pk es k a b L) : Pk es (k + 1) a b L := by
 obtain ⟨X, h1, h2⟩ := h
 exact ⟨X, h1, .inl h2⟩
theorem Pk.via {es : List (Nat × Nat × Int)} {k a b : Nat} {L K : Int} (h : Pk es k a k L) (g : Pk es k k b K) : Pk es (k + 1) a b (L + K) := by
 obtain ⟨X, h1, h2⟩ := h
 obtain ⟨Y, g1, g2⟩ := g
 exact ⟨X + Y, by omega, .inr ⟨X, Y, h2, g2, rfl⟩⟩
theorem Pk.trans {es : List (Nat × Nat × Int)} {B : Int} (he : fA es B) {c : Nat} : ∀ {k a b : Nat} {L K : Int}, c < k -> Pk es k a c L -> Pk es k c b K -> Pk es k a b (L + K)
 | 0, _, _, _, _, hc, _, _ => by omega
 | k + 1, a, b, L, K, hc, ⟨X, hX, hx⟩, ⟨Y, hY, hy⟩ => by
  by_cases hck : c = k
  ·subst hck
   have p1 : Pk es c a c L := by
    rcases hx with hx | ⟨X1, X2, x1, x2, rfl⟩
    ·exact ⟨X, hX, hx⟩
    ·exact ⟨X1, by have := x2.nonneg he; omega, x1⟩
   have p2 : Pk es c c b K := by
    rcases hy with hy | ⟨Y1, Y2, y1, y2, rfl⟩
    ·exact ⟨Y, hY, hy⟩
    ·exact ⟨Y2, by have := y1.nonneg he; omega, y2⟩
   exact p1.via p2
  ·have hlt : c < k := by omega
   rcases hx with hx | ⟨X1, X2, x1, x2, rfl⟩
   ·rcases hy with hy | ⟨Y1, Y2, y1, y2, rfl⟩
    ·exact (Pk.trans he hlt ⟨X, hX, hx⟩ ⟨Y, hY, hy⟩).succ
    ·have h1 := Pk.trans he hlt ⟨X, hX, hx⟩ (Pk.of y1)
     exact (h1.via (Pk.of y2)).le (by omega)
   ·rcases hy with hy | ⟨Y1, Y2, y1, y2, rfl⟩
    ·have h1 := Pk.trans he hlt (Pk.of x2) ⟨Y, hY, hy⟩
     exact ((Pk.of x1).via h1).le (by omega)
    ·have := x2.nonneg he
     have := y1.nonneg he
     exact ((Pk.of x1).via (Pk.of y2)).le (by omega)
theorem Wlk.pk {es : List (Nat × Nat × Int)} {B : Int} (he : fA es B) {a b : Nat} {L : Int} (h : Wlk es a b L) : Pk es 12 a b L := by
 induction h with
 | nil a => exact Pk.of (Dk.up (k := 0) (by omega) (.inl ⟨rfl, rfl⟩))
 | cons h t ih => exact Pk.trans he (he _ h).2.1 (Pk.of (Dk.up (k := 0) (by omega) (.inr h))) ih
structure OkM (es : List (Nat × Nat × Int)) (B : Int) (M : Mat) : Prop where
 diag : ∀ a, M a a = 0
 rng : ∀ a b, M a b = -1 ∨ 0 <= M a b /\ M a b <= B
 snd : ∀ a b, M a b ≠ -1 -> Wlk es a b (M a b)
theorem iQ (M : Mat) (a b : Nat) (L : Int) : mX M a b L a b = L := by simp [mX]
theorem fe (M : Mat) {a b x y : Nat} (L : Int) (h : ¬ (x = a /\ y = b)) : mX M a b L x y = M x y := by simp [mX, h]
theorem OkM.mono {es : List (Nat × Nat × Int)} {B C : Int} {M : Mat} (h : OkM es B M) (hc : B <= C) : OkM es C M :=
 ⟨h.diag, fun a b => (h.rng a b).imp id fun ⟨p, q⟩ => ⟨p, by omega⟩, h.snd⟩
theorem OkM.relax {es : List (Nat × Nat × Int)} {B : Int} {M : Mat} (h : OkM es B M) {a b : Nat} {L : Int} (h0 : 0 <= L) (hB : L <= B) (hw : Wlk es a b L) : OkM es B (cy M a b L) := by
 unfold cy
 split
 case isFalse => exact h
 case isTrue hc =>
  refine ⟨fun x => ?_, fun x y => ?_, fun x y hne => ?_⟩
  ·by_cases hx : x = a /\ x = b
   ·obtain ⟨rfl, rfl⟩ := hx
    have := h.diag x
    exfalso
    rcases hc with hc | hc <;> omega
   ·rw [fe _ _ hx]; exact h.diag x
  ·by_cases hx : x = a /\ y = b
   ·obtain ⟨rfl, rfl⟩ := hx
    rw [iQ]; exact .inr ⟨h0, hB⟩
   ·rw [fe _ _ hx]; exact h.rng x y
  ·by_cases hx : x = a /\ y = b
   ·obtain ⟨rfl, rfl⟩ := hx
    rw [iQ]; exact hw
   ·rw [fe _ _ hx] at hne ⊢; exact h.snd x y hne
theorem kj (M : Mat) (a b : Nat) (L : Int) (h0 : 0 <= L) (x y : Nat) : M x y ≠ -1 -> cy M a b L x y ≠ -1 /\ cy M a b L x y <= M x y := by
 intro h
 unfold cy
 split
 case isFalse => exact ⟨h, Int.le_refl _⟩
 case isTrue hc =>
  by_cases hx : x = a /\ y = b
  ·obtain ⟨rfl, rfl⟩ := hx
   rw [iQ]
   rcases hc with hc | hc
   ·exact absurd hc h
   ·exact ⟨by omega, by omega⟩
  ·rw [fe _ _ hx]; exact ⟨h, Int.le_refl _⟩
theorem pK (M : Mat) (a b : Nat) (L : Int) (h0 : 0 <= L) : cy M a b L a b ≠ -1 /\ cy M a b L a b <= L := by
 unfold cy
 split
 case isFalse hc => exact ⟨fun h => hc (.inl h), by rcases Int.lt_or_le L (M a b) with h | h
                                                    ·exact absurd (.inr h) hc
                                                    ·exact h⟩
 case isTrue hc => rw [iQ]; exact ⟨by omega, Int.le_refl _⟩
theorem wE {es : List (Nat × Nat × Int)} {B : Int} (hB : 0 <= B) (he : fA es B) : OkM es B (bL es) /\ ∀ a b L, Dk es 0 a b L -> bL es a b ≠ -1 /\ bL es a b <= L := by
 have key : ∀ (fs ds : List (Nat × Nat × Int)) (M : Mat), (∀ e ∈ fs, e ∈ es) -> OkM es B M -> (∀ a b L, (a = b /\ L = 0) ∨ (a, b, L) ∈ ds -> M a b ≠ -1 /\ M a b <= L) ->
   OkM es B (fs.foldl (fun M e => cy M e.1 e.2.1 e.2.2) M) /\ ∀ a b L, (a = b /\ L = 0) ∨ (a, b, L) ∈ ds ++ fs -> fs.foldl (fun M e => cy M e.1 e.2.1 e.2.2) M a b ≠ -1 /\ fs.foldl (fun M e => cy M e.1 e.2.1 e.2.2) M a b <= L := by
  intro fs
  induction fs with
  | nil => intro ds M _ hM hd; simpa using ⟨hM, hd⟩
  | cons e fs ih =>
   intro ds M hfs hM hd
   have hee := he e (hfs e (by simp))
   have hw : Wlk es e.1 e.2.1 e.2.2 := by
    have := Wlk.cons (es := es) (a := e.1) (b := e.2.1) (L := e.2.2) (hfs e (by simp)) (Wlk.nil _)
    simpa using this
   have := ih (ds ++ [e]) (cy M e.1 e.2.1 e.2.2) (fun x hx => hfs x (by simp [hx])) (hM.relax hee.2.2.1 hee.2.2.2 hw) (fun a b L h => by
    rcases h with h | h
    ·have h1 := hd a b L (.inl h)
     have h2 := kj M e.1 e.2.1 e.2.2 hee.2.2.1 a b h1.1
     exact ⟨h2.1, by omega⟩
    ·rcases List.mem_append.1 h with h | h
     ·have h1 := hd a b L (.inr h)
      have h2 := kj M e.1 e.2.1 e.2.2 hee.2.2.1 a b h1.1
      exact ⟨h2.1, by omega⟩
     ·simp at h
      subst h
      exact pK M a b L hee.2.2.1)
   simpa using this
 have h0 : OkM es B jC := by
  refine ⟨fun a => by simp [jC], fun a b => ?_, fun a b h => ?_⟩
  ·unfold jC; split
   ·exact .inr ⟨Int.le_refl _, hB⟩
   ·exact .inl rfl
  ·by_cases hab : a = b
   ·subst hab
    have : jC a a = 0 := by simp [jC]
    rw [this]; exact Wlk.nil a
   ·simp [jC, hab] at h
 have := key es [] jC (fun e h => h) h0 (fun a b L h => by
  rcases h with ⟨rfl, rfl⟩ | h
  ·simp [jC]
  ·cases h)
 exact ⟨this.1, fun a b L h => this.2 a b L (by simpa [Dk] using h)⟩
structure ic (es : List (Nat × Nat × Int)) (B : Int) (M : Mat) (k : Nat) (N : Mat) (D : Nat -> Nat -> Prop) : Prop where
 ok : OkM es (B + B) N
 col : ∀ a, N a k = M a k
 row : ∀ b, N k b = M k b
 le : ∀ a b, M a b ≠ -1 -> N a b ≠ -1 /\ N a b <= M a b
 dn : ∀ a b, D a b -> M a k ≠ -1 -> M k b ≠ -1 -> N a b ≠ -1 /\ N a b <= M a k + M k b
theorem ic.mono {es : List (Nat × Nat × Int)} {B : Int} {M N : Mat} {k : Nat} {D D' : Nat -> Nat -> Prop} (h : ic es B M k N D) (hd : ∀ a b, D' a b -> D a b) : ic es B M k N D' :=
 ⟨h.ok, h.col, h.row, h.le, fun a b hab => h.dn a b (hd a b hab)⟩
theorem ic.step {es : List (Nat × Nat × Int)} {B : Int} {M N : Mat} {k : Nat} {D : Nat -> Nat -> Prop} (hM : OkM es B M) (h : ic es B M k N D) (a b : Nat) :
  ic es B M k (lj k a N b) (fun x y => D x y ∨ (x = a /\ y = b)) := by
 unfold lj
 rw [h.col, h.row]
 by_cases hc : M a k ≠ -1 /\ M k b ≠ -1
 case neg =>
  rw [if_neg hc]
  refine ⟨h.ok, h.col, h.row, h.le, fun x y hd h1 h2 => ?_⟩
  rcases hd with hd | ⟨rfl, rfl⟩
  ·exact h.dn x y hd h1 h2
  ·exact absurd ⟨h1, h2⟩ hc
 case pos =>
  rw [if_pos hc]
  have r1 := (hM.rng a k).resolve_left hc.1
  have r2 := (hM.rng k b).resolve_left hc.2
  have hL : 0 <= M a k + M k b := by omega
  have hw := (hM.snd a k hc.1).trans (hM.snd k b hc.2)
  have keep : a = k ∨ b = k -> cy N a b (M a k + M k b) = N := by
   intro hk
   unfold cy
   rw [if_neg]
   rintro (h1 | h1)
   ·rcases hk with rfl | rfl
    ·rw [h.row] at h1; exact hc.2 h1
    ·rw [h.col] at h1; exact hc.1 h1
   ·rcases hk with rfl | rfl
    ·rw [h.row, hM.diag] at h1; omega
    ·rw [h.col, hM.diag] at h1; omega
  refine ⟨h.ok.relax hL (by omega) hw, fun x => ?_, fun y => ?_, fun x y hne => ?_, fun x y hd h1 h2 => ?_⟩
  ·by_cases hk : a = k ∨ b = k
   ·rw [keep hk]; exact h.col x
   ·unfold cy
    split
    ·rw [fe _ _ (by rintro ⟨_, rfl⟩; exact hk (.inr rfl))]; exact h.col x
    ·exact h.col x
  ·by_cases hk : a = k ∨ b = k
   ·rw [keep hk]; exact h.row y
   ·unfold cy
    split
    ·rw [fe _ _ (by rintro ⟨rfl, _⟩; exact hk (.inl rfl))]; exact h.row y
    ·exact h.row y
  ·have h1 := h.le x y hne
   have h2 := kj N a b (M a k + M k b) hL x y h1.1
   exact ⟨h2.1, by omega⟩
  ·rcases hd with hd | ⟨rfl, rfl⟩
   ·have h3 := h.dn x y hd h1 h2
    have h4 := kj N a b (M a k + M k b) hL x y h3.1
    exact ⟨h4.1, by omega⟩
   ·exact pK N x y _ hL
theorem ic.rows {es : List (Nat × Nat × Int)} {B : Int} {M N : Mat} {k : Nat} {D : Nat -> Nat -> Prop} (hM : OkM es B M) (h : ic es B M k N D) (a : Nat) : ∀ m, ic es B M k (iM k a m N) (fun x y => D x y ∨ (x = a /\ y < m))
 | 0 => h.mono fun x y hd => by rcases hd with hd | ⟨_, h⟩
                                ·exact hd
                                ·omega
 | m + 1 => by
  rw [nt]
  refine ((ic.rows hM h a m).step hM a m).mono fun x y hd => ?_
  rcases hd with hd | ⟨rfl, h⟩
  ·exact .inl (.inl hd)
  ·by_cases hy : y = m
   ·exact .inr ⟨rfl, hy⟩
   ·exact .inl (.inr ⟨rfl, by omega⟩)
theorem ic.start {es : List (Nat × Nat × Int)} {B : Int} {M : Mat} (hB : 0 <= B) (hM : OkM es B M) (k : Nat) : ic es B M k M (fun _ _ => False) :=
 ⟨hM.mono (by omega), fun _ => rfl, fun _ => rfl, fun _ _ h => ⟨h, Int.le_refl _⟩, fun _ _ h => h.elim⟩
theorem ic.stage {es : List (Nat × Nat × Int)} {B : Int} {M : Mat} (hB : 0 <= B) (hM : OkM es B M) (k : Nat) : ∀ m, ic es B M k (cR k m M) (fun x y => x < m /\ y < 12)
 | 0 => (ic.start hB hM k).mono fun x y h => by omega
 | m + 1 => by
  rw [lk]
  refine ((ic.stage hB hM k m).rows hM m 12).mono fun x y ⟨h1, h2⟩ => ?_
  by_cases hx : x = m
  ·exact .inr ⟨hx, h2⟩
  ·exact .inl ⟨by omega, h2⟩
theorem mT {es : List (Nat × Nat × Int)} {B : Int} (hB : 0 <= B) (he : fA es B) : ∀ k, k <= 12 -> OkM es (B * 2 ^ k) (fF k (bL es)) /\ ∀ a b L, a < 12 -> b < 12 -> Dk es k a b L -> fF k (bL es) a b ≠ -1 /\ fF k (bL es) a b <= L
 | 0, _ => by
  have := wE hB he
  exact ⟨by simpa [fF] using this.1, fun a b L _ _ h => by simpa [fF] using this.2 a b L h⟩
 | k + 1, hk => by
  obtain ⟨h1, h2⟩ := mT hB he k (by omega)
  have hp : 0 <= B * 2 ^ k := Int.mul_nonneg hB (Int.pow_nonneg (by omega))
  have hm := ic.stage hp h1 k 12
  rw [oh]
  refine ⟨?_, fun a b L ha hb h => ?_⟩
  ·have := hm.ok
   rwa [show B * 2 ^ k + B * 2 ^ k = B * 2 ^ (k + 1) by rw [Int.pow_succ, <- Int.mul_assoc]; omega] at this
  ·rcases h with h | ⟨L1, L2, g1, g2, rfl⟩
   ·have h3 := h2 a b L ha hb h
    have h4 := hm.le a b h3.1
    exact ⟨h4.1, by omega⟩
   ·have h3 := h2 a k L1 ha (by omega) g1
    have h4 := h2 k b L2 (by omega) hb g2
    have h5 := hm.dn a b ⟨ha, hb⟩ h3.1 h4.1
    exact ⟨h5.1, by omega⟩
def de (es : List (Nat × Nat × Int)) : Mat := fF 12 (bL es)
theorem uw {es : List (Nat × Nat × Int)} {B : Int} (hB : 0 <= B) (he : fA es B) {a b : Nat} (h : de es a b ≠ -1) : Wlk es a b (de es a b) := (mT hB he 12 (by omega)).1.snd a b h
theorem sI {es : List (Nat × Nat × Int)} {B : Int} (hB : 0 <= B) (he : fA es B) {a b : Nat} (ha : a < 12) (hb : b < 12) {L : Int} (h : Wlk es a b L) : de es a b ≠ -1 /\ de es a b <= L := by
 obtain ⟨K, h1, h2⟩ := h.pk he
 have := (mT hB he 12 (by omega)).2 a b K ha hb h2
 exact ⟨this.1, by unfold de; omega⟩
def Blk (w : World) (R : Nat) (M : Mat) : Prop := ∃ cs : Array Value, w.heap[R]? = some (.cells cs 117 (0, 0)) /\ cs.size = 144 /\ ∀ a b, a < 12 -> b < 12 -> cs[a * 12 + b]? = some (iV (M a b))
theorem Blk.cell {w : World} {R : Nat} {M : Mat} (h : Blk w R M) {a b : Nat} (ha : a < 12) (hb : b < 12) : w.cell? (aV R (a * 12 + b)) = some (iV (M a b)) /\ w.frozen? (aV R (a * 12 + b)) = false := by
 obtain ⟨cs, h1, _, h3⟩ := h
 exact ⟨aA _ h1 |>.trans (h3 a b ha hb), ac h1 _⟩
theorem Blk.lt {w : World} {R : Nat} {M : Mat} (h : Blk w R M) : R < w.heap.size := by
 obtain ⟨cs, h1, _, _⟩ := h
 exact aa h1
theorem Blk.kept {w w' : World} {R : Nat} {M : Mat} (h : Blk w R M) (hk : w'.heap[R]? = w.heap[R]?) : Blk w' R M := by
 obtain ⟨cs, h1, h2, h3⟩ := h
 exact ⟨cs, hk.trans h1, h2, h3⟩
theorem Blk.below {w w' : World} {R : Nat} {M : Mat} (h : Blk w R M) (hb : Below w.heap.size w w') : Blk w' R M := h.kept (hb.block _ h.lt)
theorem Blk.set {w : World} {R : Nat} {M : Mat} (h : Blk w R M) {a b : Nat} (_ha : a < 12) (hb : b < 12) (L : Int) : Blk (w.setCell (aV R (a * 12 + b)) (iV L)) R (mX M a b L) := by
 obtain ⟨cs, h1, h2, h3⟩ := h
 refine ⟨cs.setIfInBounds (a * 12 + b) (iV L), by simp [World.setCell, Array.getElem?_modify, h1], by simp [h2], fun x y hx hy => ?_⟩
 by_cases he : x = a /\ y = b
 ·obtain ⟨rfl, rfl⟩ := he
  rw [iQ, Array.getElem?_setIfInBounds_self_of_lt (by rw [h2]; omega)]
 ·rw [fe _ _ he, Array.getElem?_setIfInBounds_ne (by omega)]
  exact h3 x y hx hy
theorem js (w : World) (R o : Nat) (v : Value) : w.grownBy (w.setCell (aV R o) v) (some R) :=
 ⟨rfl, rfl, rfl, by simp, fun i _ hi => Below.heap_setCell w (aV R o) v i (fun e => hi (by rw [e]))⟩
theorem nu (R : Nat) (M : Mat) (a b : Nat) (L : Int) (w : World) (h : Blk w R M) (ha : a < 12) (hb : b < 12) :
  Calls Tryz.prog 127 #[iV a, iV b, iV L, .pointer (some (aV R 0))] w fun e w' => e = .returned (.tuple #[]) /\ Blk w' R (cy M a b L) /\ w.grownBy w' (some R) := by
 obtain ⟨hc, hfz⟩ := h.cell ha hb
 have H := aB h; clear h
 have j1 : (0 : Int) <= (a : Int) := by omega
 have j2 : (a : Int) < 12 := by omega
 have j3 : (0 : Int) <= (b : Int) := by omega
 have j4 : (b : Int) < 12 := by omega
 have HN : Hid (w.grownBy w (some R)) := ⟨rfl, rfl, rfl, aH _, fun _ _ _ => rfl⟩
 by_cases h1 : M a b = -1
 ·have HR : Hid (cy M a b L = mX M a b L) := if_pos (.inl h1)
  have h1' : (M a b == -1) = true := by simpa using h1
  clear h1
  go_enter Tryz.func127, Tryz.ntmps127
  go_wp2_with fail
  go_end0
  exact ⟨rfl, by rw [HR.out]; exact H.out.set ha hb L, js _ _ _ _⟩
 ·have h1' : (M a b == -1) = false := by simpa using h1
  by_cases h2 : L < M a b
  ·have HR : Hid (cy M a b L = mX M a b L) := if_pos (.inr h2)
   clear h1
   go_enter Tryz.func127, Tryz.ntmps127
   go_wp2_with fail
   go_end0
   exact ⟨rfl, by rw [HR.out]; exact H.out.set ha hb L, js _ _ _ _⟩
  ·have HR : Hid (cy M a b L = M) := if_neg (fun h => h.elim h1 h2)
   clear h1
   go_enter Tryz.func127, Tryz.ntmps127
   go_wp2_with fail
   go_end0
   exact ⟨rfl, by rw [HR.out]; exact H.out, HN.out⟩
end Go.Proofs.YtpeaiphdkgifaaaGreatDoor
