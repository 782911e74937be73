/-
  The walk over survey.inconsistencies. Distances between offices in plain Lean: the survey's relaxation is exact. The walk over survey.relaxed's closure: one way between two offices made shorter.
-/
import Derived.Test.YtpeaiphdkgifaaaGreatDoorWag
import Derived.Test.YtpeaiphdkgifaaaGreatDoorWah
import Derived.Test.YtpeaiphdkgifaaaGreatDoorWai
import Derived.Test.YtpeaiphdkgifaaaGreatDoorWaj
import Derived.Test.YtpeaiphdkgifaaaGreatDoorWak
import Derived.Test.YtpeaiphdkgifaaaGreatDoorWaa
namespace Go.Proofs.YtpeaiphdkgifaaaGreatDoor
open Go.RowKit
set_option maxHeartbeats 20000000
set_option maxRecDepth 100000
structure Cons (n : Net) : Prop where
 same : n.names.length = n.cals.length
 cal : n.cals.length <= 6 /\ ∀ i < n.cals.length, okAt (nmCal n) calB n.cals i
 op : n.ops.length <= 6 /\ ∀ i < n.ops.length, okAt (nmOp n) (fun _ => true) n.ops i
 off : n.offs.length <= 12 /\ ∀ i < n.offs.length, okAt (nmOff n) (officeB n) n.offs i
 lin : n.lins.length <= 40 /\ ∀ i < n.lins.length, okAt (nmLin n) (lineB n) n.lins i
 cls : n.clss.length <= 4 /\ ∀ i < n.clss.length, okAt (nmCls n) clsB n.clss i
def InconR (w : World) (ok : Prop) (e : Ending) (w' : World) : Prop :=
 ∃ A m c xs, e = .returned (.slice A m c) /\ w'.ownsRow w.heap.size 150 3 (.slice A m c) m xs /\ (∀ x ∈ xs, x.oneCell' = true) /\ (m = 0 ↔ ok) /\ m <= 300 /\ Below w.heap.size w w'
theorem src_own {P : Program} {w : World} {base : Nat} {e tx e' : TypeId} {size : Nat} {A : Option Addr} {m c : Nat} {xs : List Value} (hk : P.underlying tx = some (.slice e')) (h : w.ownsRow base e size (.slice A m c) m xs) (h1 : ∀ u ∈ xs, u.oneCell' = true) : Src P size tx (.slice A m c) m xs w := by
 have hl := h.1
 rcases h.2 with ⟨hv, h0⟩ | ⟨g, cap, cur, hv, hb, hg, hc, hm, hs, ht⟩
 ·cases hv
  have : xs = [] := List.eq_nil_of_length_eq_zero (by simpa using hl)
  subst this
  exact Src.ofNil w hk 0
 ·cases hv
  exact Src.ofSlice w hk ⟨g, 0, none⟩ m c xs hl (fun j u hu => h.cells (g := g) rfl j u hu) h1
theorem one_app {xs ys : List Value} (h : ∀ x ∈ xs, x.oneCell' = true) (k : ∀ x ∈ ys, x.oneCell' = true) : ∀ x ∈ xs ++ ys, x.oneCell' = true := fun x hx => (List.mem_append.1 hx).elim (h x) (k x)
theorem nm_len {w : World} {n : Net} (h : NetIn w n) : (∀ i, (nmCal n i).length <= maxLen) /\ (∀ i, (nmOp n i).length <= maxLen) /\ (∀ i, (nmOff n i).length <= maxLen) /\ (∀ i, (nmLin n i).length <= maxLen) /\ ∀ i, (nmCls n i).length <= maxLen := by
 have g : ∀ {l : List (List UInt8)}, (∀ s ∈ l, s.length <= maxLen) -> ∀ i, (l.getD i []).length <= maxLen := by
  intro l hl i
  by_cases hi : i < l.length
  ·have : l.getD i [] = l[i] := by simp [List.getD, hi]
   rw [this]; exact hl _ (List.getElem_mem hi)
  ·have : l.getD i [] = [] := by simp [List.getD, hi]
   rw [this]; exact Nat.zero_le _
 refine ⟨g h.name, g h.op, fun i => ?_, fun i => ?_, fun i => ?_⟩
 ·by_cases hi : i < n.offs.length
  ·exact (h.off _ (List.mem_of_getElem? (offAt_get hi))).1.1
  ·have : offAt n i = zOff := by unfold offAt; simp [List.getD, hi]
   unfold nmOff; rw [this]; exact Nat.zero_le _
 ·by_cases hi : i < n.lins.length
  ·exact (h.lin _ (List.mem_of_getElem? (linAt_get hi))).1
  ·have : linAt n i = zLin := by unfold linAt; simp [List.getD, hi]
   unfold nmLin; rw [this]; exact Nat.zero_le _
 ·by_cases hi : i < n.clss.length
  ·exact (h.cls _ (List.mem_of_getElem? (clsAt_get hi))).1
  ·have : clsAt n i = zCls := by unfold clsAt; simp [List.getD, hi]
   unfold nmCls; rw [this]; exact Nat.zero_le _
theorem and_zero {m p : Nat} {P Q : Prop} (h : m = 0 ↔ P) (k : p = 0 ↔ Q) : m + p = 0 ↔ P /\ Q :=
 ⟨fun e => ⟨h.1 (by omega), k.1 (by omega)⟩, fun ⟨a, b⟩ => by have := h.2 a; have := k.2 b; omega⟩
theorem and_zero0 {p : Nat} {P Q : Prop} (h : P) (k : p = 0 ↔ Q) : p = 0 ↔ P /\ Q := ⟨fun e => ⟨h, k.1 e⟩, fun ⟨_, b⟩ => k.2 b⟩
theorem box_keep {w W wr : World} {X : Nat} {n : Net} (hn : NetIn w n) (hX : w.heap.size = X) (h0 : Below X w W) (hx : ∀ i v, (netCells n)[i]? = some v -> W.cell? ⟨X, i, none⟩ = some v) (hb : Below (X + 1) W wr) : Below w.heap.size w wr /\ NetP wr X n := by
 have h1 : Below w.heap.size w wr := by rw [hX]; exact h0.trans (hb.mono (by omega))
 exact ⟨h1, fun i v hv => (hb.cell (p := ⟨X, i, none⟩) (Nat.lt_succ_self _)).trans (hx i v hv), hn.below h1⟩
theorem incon_any (n : Net) (w : World) (hn : NetIn w n) (hk : KW w) :
  Calls Tryz.prog 50 #[netV n] w (InconR w (Cons n)) := by
 obtain ⟨i0, hi0, hz0, hz1, hz2⟩ := info_parts ftInfo
 have hb0 := ba w (netO n)
 have hl := hn.lens
 have HL := Lib.hid hl
 unfold maxLen at hl
 have HNM := Lib.hid (nm_len hn)
 have hx0 := heap_alloc_new w (netO n)
 have HNP : Hid (NetP (w.alloc (netO n)) w.heap.size n) := ⟨fun i v hv => (cell_of_row _ _ _ _ _ _ hx0).trans hv, hn.below hb0⟩
 have HK := Lib.hid hk
 have HNW := Lib.hid hn
 have HB0 := Lib.hid hb0
 have HWL : Hid (w.heap.size + 1 <= (w.alloc (netO n)).heap.size) := block_lt hx0
 clear hn hk hb0 hx0
 by_cases hsame : n.names.length = n.cals.length
 ·have s1 : ((n.names.length : Int) != (n.cals.length : Int)) = false := by simp; omega
  have s2 : ((n.names.length : Int) == (n.cals.length : Int)) = true := by simp; omega
  have HS := Lib.hid hsame; clear hsame
  go_enter Tryz.func50, Tryz.ntmps50
  go_upto_region 1 with fail
  change Code.wp _ _ _ _ (w.alloc (netO n))
  generalize (w.alloc (netO n)) = W at *
  generalize hX : w.heap.size = X at *
  have HX := Lib.hid hX; clear hX
  have HNB : Hid (∀ wr, Below (X + 1) W wr -> Below w.heap.size w wr /\ NetP wr X n) := fun wr hb => box_keep HNW.out HX.out HB0.out HNP.out.box hb
  have HO0 : Hid (W.ownsRow (X + 1) 150 3 (.slice none 0 0) 0 []) := World.ownsRow_nil _ _ _ _
  have HBB0 : Hid (Below (X + 1) W W) := Below.refl _ _
  have HI0 : Hid (∀ x ∈ ([] : List Value), x.oneCell' = true) := fun x hx => by cases hx
  have n0 : W.cell? ⟨X, 0, none⟩ = some (.slice n.calA n.cals.length n.calC) := HNP.out.box 0 _ rfl
  have n1 : W.cell? ⟨X, 1, none⟩ = some (.slice n.namA n.names.length n.namC) := HNP.out.box 1 _ rfl
  have HP0 : Hid (NetP W X n) := (HNB.out _ HBB0.out).2
  go_wp2_with fail
  refine (check_cal 1 6 109 111 #[.pointer (some ⟨X, 0, none⟩)] #[] (nmCal n) calB n.cals n.calA n.calC _ (fun i hi w' hb => calname_any X n i w' (HP0.out.below hb)) (fun x hx w' hb => valid_any x w' ((HP0.out.net.cal x hx).below hb)) (HK.out.below (HNB.out _ HBB0.out).1) HL.out.1 (by omega) (fun i _ => HNM.out.1 i) (HP0.out.net.cals) (fun _ _ => rfl) (fun _ _ => rfl)).mono ?_
  rintro e v0 ⟨B0, p0, d0, ys0, rfl, ho, h1, hm, hmb, hb⟩
  have HV0 := Lib.hid (HBB0.out.trans (hb.mono (Nat.le_trans HWL.out HBB0.out.size)))
  have HOA0 := Lib.hid (own_below HO0.out hb)
  have HOB0 := Lib.hid ho
  have H10 := Lib.hid h1
  have HM0 := Lib.hid hm
  clear ho h1 hm hb n0
  clear n1
  go_wp2_with (refine wpList_app (by rfl) (.tmp 21) (.tmp 25) 85 85 (by rfl) (X + 1) 150 i0 _ 3 24 Tryz.underlying85 hi0 hz0 hz1 hz2 (by rfl) _ (0) ([]) (by rfl) HOA0.out _ (by rfl) p0 ys0 (src_own Tryz.underlying85 HOB0.out H10.out) (by unfold maxLen; omega) (by omega) (Nat.le_trans HWL.out HV0.out.size) ?_; intro A1' c1' w1' ho hgr hbl; rw [Nat.zero_add] at ho; have HO1 := Lib.hid ho; have HBB1 := Lib.hid (app_below HV0.out HWL.out HOA0.out (Nat.le_refl _) hgr); clear ho hgr hbl; have n2 : w1'.cell? ⟨X, 2, none⟩ = some (.slice n.opA n.ops.length n.opC) := (HNB.out _ HBB1.out).2.box 2 _ rfl)
  have HI1 := Lib.hid (one_app HI0.out H10.out)
  have HQ1 := Lib.hid (and_zero0 HS.out HM0.out)
  clear HOA0 HOB0 HO0 HBB0 HI0 HP0 HV0
  have HP1 : Hid (NetP w1' X n) := (HNB.out _ HBB1.out).2
  go_wp2_with fail
  refine (check_op 2 6 112 114 #[.pointer (some ⟨X, 0, none⟩)] #[] (nmOp n) (fun _ => true) n.ops n.opA n.opC _ (fun i hi w' hb => opname_any X n i w' (HP1.out.below hb) hi) (fun x hx w' hb => opgood_any x w') (HK.out.below (HNB.out _ HBB1.out).1) HL.out.2.2.1 (by omega) (fun i _ => HNM.out.2.1 i) (by rw [encOp_map]; exact HP1.out.net.ops) (fun _ _ => rfl) (fun _ _ => rfl)).mono ?_
  rintro e v1 ⟨B1, p1, d1, ys1, rfl, ho, h1, hm, hmb, hb⟩
  have HV1 := Lib.hid (HBB1.out.trans (hb.mono (Nat.le_trans HWL.out HBB1.out.size)))
  have HOA1 := Lib.hid (own_below HO1.out hb)
  have HOB1 := Lib.hid ho
  have H11 := Lib.hid h1
  have HM1 := Lib.hid hm
  clear ho h1 hm hb n2
  go_wp2_with (refine wpList_app (by rfl) (.tmp 28) (.tmp 32) 85 85 (by rfl) (X + 1) 150 i0 _ 3 24 Tryz.underlying85 hi0 hz0 hz1 hz2 (by rfl) _ (p0) ([] ++ ys0) (by rfl) HOA1.out _ (by rfl) p1 ys1 (src_own Tryz.underlying85 HOB1.out H11.out) (by unfold maxLen; omega) (by omega) (Nat.le_trans HWL.out HV1.out.size) ?_; intro A2' c2' w2' ho hgr hbl; have HO2 := Lib.hid ho; have HBB2 := Lib.hid (app_below HV1.out HWL.out HOA1.out (Nat.le_refl _) hgr); clear ho hgr hbl; have n3 : w2'.cell? ⟨X, 3, none⟩ = some (.slice n.offA n.offs.length n.offC) := (HNB.out _ HBB2.out).2.box 3 _ rfl)
  have HI2 := Lib.hid (one_app HI1.out H11.out)
  have HQ2 := Lib.hid (and_zero HQ1.out HM1.out)
  clear HOA1 HOB1 HO1 HBB1 HI1 HP1 HV1
  have HP2 : Hid (NetP w2' X n) := (HNB.out _ HBB2.out).2
  go_wp2_with fail
  refine (check_off 3 12 115 117 #[.pointer (some ⟨X, 0, none⟩)] #[.pointer (some ⟨X, 0, none⟩)] (nmOff n) (officeB n) n.offs n.offA n.offC _ (fun i hi w' hb => offname_any X n i w' (HP2.out.below hb) hi) (fun x hx w' hb => offgood_any X n x w' (HP2.out.below hb) ((HP2.out.net.off x hx).below hb)) (HK.out.below (HNB.out _ HBB2.out).1) HL.out.2.2.2.1 (by omega) (fun i _ => HNM.out.2.2.1 i) (HP2.out.net.offs) (fun _ _ => rfl) (fun _ _ => rfl)).mono ?_
  rintro e v2 ⟨B2, p2, d2, ys2, rfl, ho, h1, hm, hmb, hb⟩
  have HV2 := Lib.hid (HBB2.out.trans (hb.mono (Nat.le_trans HWL.out HBB2.out.size)))
  have HOA2 := Lib.hid (own_below HO2.out hb)
  have HOB2 := Lib.hid ho
  have H12 := Lib.hid h1
  have HM2 := Lib.hid hm
  clear ho h1 hm hb n3
  go_wp2_with (refine wpList_app (by rfl) (.tmp 35) (.tmp 40) 85 85 (by rfl) (X + 1) 150 i0 _ 3 24 Tryz.underlying85 hi0 hz0 hz1 hz2 (by rfl) _ (p0 + p1) ([] ++ ys0 ++ ys1) (by rfl) HOA2.out _ (by rfl) p2 ys2 (src_own Tryz.underlying85 HOB2.out H12.out) (by unfold maxLen; omega) (by omega) (Nat.le_trans HWL.out HV2.out.size) ?_; intro A3' c3' w3' ho hgr hbl; have HO3 := Lib.hid ho; have HBB3 := Lib.hid (app_below HV2.out HWL.out HOA2.out (Nat.le_refl _) hgr); clear ho hgr hbl; have n4 : w3'.cell? ⟨X, 4, none⟩ = some (.slice n.linA n.lins.length n.linC) := (HNB.out _ HBB3.out).2.box 4 _ rfl)
  have HI3 := Lib.hid (one_app HI2.out H12.out)
  have HQ3 := Lib.hid (and_zero HQ2.out HM2.out)
  clear HOA2 HOB2 HO2 HBB2 HI2 HP2 HV2
  have HP3 : Hid (NetP w3' X n) := (HNB.out _ HBB3.out).2
  go_wp2_with fail
  refine (check_lin 4 40 119 121 #[.pointer (some ⟨X, 0, none⟩)] #[.pointer (some ⟨X, 0, none⟩)] (nmLin n) (lineB n) n.lins n.linA n.linC _ (fun i hi w' hb => linname_any X n i w' (HP3.out.below hb) hi) (fun x hx w' hb => lingood_any X n x w' (HP3.out.below hb)) (HK.out.below (HNB.out _ HBB3.out).1) HL.out.2.2.2.2.1 (by omega) (fun i _ => HNM.out.2.2.2.1 i) (HP3.out.net.lins) (fun _ _ => rfl) (fun _ _ => rfl)).mono ?_
  rintro e v3 ⟨B3, p3, d3, ys3, rfl, ho, h1, hm, hmb, hb⟩
  have HV3 := Lib.hid (HBB3.out.trans (hb.mono (Nat.le_trans HWL.out HBB3.out.size)))
  have HOA3 := Lib.hid (own_below HO3.out hb)
  have HOB3 := Lib.hid ho
  have H13 := Lib.hid h1
  have HM3 := Lib.hid hm
  clear ho h1 hm hb n4
  go_wp2_with (refine wpList_app (by rfl) (.tmp 43) (.tmp 48) 85 85 (by rfl) (X + 1) 150 i0 _ 3 24 Tryz.underlying85 hi0 hz0 hz1 hz2 (by rfl) _ (p0 + p1 + p2) ([] ++ ys0 ++ ys1 ++ ys2) (by rfl) HOA3.out _ (by rfl) p3 ys3 (src_own Tryz.underlying85 HOB3.out H13.out) (by unfold maxLen; omega) (by omega) (Nat.le_trans HWL.out HV3.out.size) ?_; intro A4' c4' w4' ho hgr hbl; have HO4 := Lib.hid ho; have HBB4 := Lib.hid (app_below HV3.out HWL.out HOA3.out (Nat.le_refl _) hgr); clear ho hgr hbl; have n5 : w4'.cell? ⟨X, 5, none⟩ = some (.slice n.clsA n.clss.length n.clsC) := (HNB.out _ HBB4.out).2.box 5 _ rfl)
  have HI4 := Lib.hid (one_app HI3.out H13.out)
  have HQ4 := Lib.hid (and_zero HQ3.out HM3.out)
  clear HOA3 HOB3 HO3 HBB3 HI3 HP3 HV3
  have HP4 : Hid (NetP w4' X n) := (HNB.out _ HBB4.out).2
  go_wp2_with fail
  refine (check_cls 5 4 123 125 #[.pointer (some ⟨X, 0, none⟩)] #[] (nmCls n) clsB n.clss n.clsA n.clsC _ (fun i hi w' hb => clsname_any X n i w' (HP4.out.below hb) hi) (fun x hx w' hb => clsgood_any x w') (HK.out.below (HNB.out _ HBB4.out).1) HL.out.2.2.2.2.2 (by omega) (fun i _ => HNM.out.2.2.2.2 i) (HP4.out.net.clss) (fun _ _ => rfl) (fun _ _ => rfl)).mono ?_
  rintro e v4 ⟨B4, p4, d4, ys4, rfl, ho, h1, hm, hmb, hb⟩
  have HV4 := Lib.hid (HBB4.out.trans (hb.mono (Nat.le_trans HWL.out HBB4.out.size)))
  have HOA4 := Lib.hid (own_below HO4.out hb)
  have HOB4 := Lib.hid ho
  have H14 := Lib.hid h1
  have HM4 := Lib.hid hm
  clear ho h1 hm hb n5
  go_wp2_with (refine wpList_app (by rfl) (.tmp 51) (.tmp 55) 85 85 (by rfl) (X + 1) 150 i0 _ 3 24 Tryz.underlying85 hi0 hz0 hz1 hz2 (by rfl) _ (p0 + p1 + p2 + p3) ([] ++ ys0 ++ ys1 ++ ys2 ++ ys3) (by rfl) HOA4.out _ (by rfl) p4 ys4 (src_own Tryz.underlying85 HOB4.out H14.out) (by unfold maxLen; omega) (by omega) (Nat.le_trans HWL.out HV4.out.size) ?_; intro A5' c5' w5' ho hgr hbl; have HO5 := Lib.hid ho; have HBB5 := Lib.hid (app_below HV4.out HWL.out HOA4.out (Nat.le_refl _) hgr); clear ho hgr hbl)
  have HI5 := Lib.hid (one_app HI4.out H14.out)
  have HQ5 := Lib.hid (and_zero HQ4.out HM4.out)
  clear HOA4 HOB4 HO4 HBB4 HI4 HP4 HV4
  go_ret
  exact ⟨_, _, _, _, rfl, own_base HO5.out (by have := HX.out; omega), HI5.out, HQ5.out.trans ⟨fun h => ⟨h.1.1.1.1.1, h.1.1.1.1.2, h.1.1.1.2, h.1.1.2, h.1.2, h.2⟩, fun h => ⟨⟨⟨⟨⟨h.same, h.cal⟩, h.op⟩, h.off⟩, h.lin⟩, h.cls⟩⟩, by omega, (HNB.out _ HBB5.out).1⟩
 ·have s1 : ((n.names.length : Int) != (n.cals.length : Int)) = true := by simp; omega
  have s2 : ((n.names.length : Int) == (n.cals.length : Int)) = false := by simp; omega
  have HS := Lib.hid hsame; clear hsame
  go_enter Tryz.func50, Tryz.ntmps50
  go_upto_region 1 with fail
  change Code.wp _ _ _ _ (w.alloc (netO n))
  generalize (w.alloc (netO n)) = W at *
  generalize hX : w.heap.size = X at *
  have HX := Lib.hid hX; clear hX
  have HNB : Hid (∀ wr, Below (X + 1) W wr -> Below w.heap.size w wr /\ NetP wr X n) := fun wr hb => box_keep HNW.out HX.out HB0.out HNP.out.box hb
  have n0 : W.cell? ⟨X, 0, none⟩ = some (.slice n.calA n.cals.length n.calC) := HNP.out.box 0 _ rfl
  have n1 : W.cell? ⟨X, 1, none⟩ = some (.slice n.namA n.names.length n.namC) := HNP.out.box 1 _ rfl
  go_upto_region 4 with (refine wpList_app (by rfl) (.tmp 16) (.tmp 18) 85 85 (by rfl) (X + 1) 150 i0 _ 3 24 Tryz.underlying85 hi0 hz0 hz1 hz2 (by rfl) _ 0 [] (by rfl) (World.ownsRow_nil _ _ _ _) _ (by rfl) 1 [iV 1, iV (-1), iV 1] (src_k 3 Tryz.underlying85 (Rd.new _ [iV 1, iV (-1), iV 1] _) rfl (by simp [Value.oneCell'])) (by unfold maxLen; omega) (by omega) (by have := HWL.out; simp; omega) ?_; intro A0 c0 w0 ho hgr hbl; have HO0 := Lib.hid ho; have HBB0 := Lib.hid (app_below ((Below.refl (X + 1) W).alloc HWL.out _) HWL.out (World.ownsRow_nil _ (X + 1) 150 3) (Nat.le_refl _) hgr); clear ho hgr hbl)
  have HI0 : Hid (∀ x ∈ ([] ++ [iV 1, iV (-1), iV 1] : List Value), x.oneCell' = true) := by
   intro x hx
   simp at hx
   rcases hx with rfl | rfl | rfl <;> rfl
  have HQ0 : Hid (0 + 1 = 0 ↔ n.names.length = n.cals.length) := ⟨fun h => by omega, fun h => absurd h HS.out⟩
  have e0 : 0 + 1 <= 1 := by omega
  clear n0 n1
  have n0 : w0.cell? ⟨X, 0, none⟩ = some (.slice n.calA n.cals.length n.calC) := (HBB0.out.cell (p := ⟨X, 0, none⟩) (Nat.lt_succ_self _)).trans (HNP.out.box 0 _ rfl)
  have HP0 : Hid (NetP w0 X n) := (HNB.out _ HBB0.out).2
  go_wp2_with fail
  refine (check_cal 1 6 109 111 #[.pointer (some ⟨X, 0, none⟩)] #[] (nmCal n) calB n.cals n.calA n.calC _ (fun i hi w' hb => calname_any X n i w' (HP0.out.below hb)) (fun x hx w' hb => valid_any x w' ((HP0.out.net.cal x hx).below hb)) (HK.out.below (HNB.out _ HBB0.out).1) HL.out.1 (by omega) (fun i _ => HNM.out.1 i) (HP0.out.net.cals) (fun _ _ => rfl) (fun _ _ => rfl)).mono ?_
  rintro e v0 ⟨B0, p0, d0, ys0, rfl, ho, h1, hm, hmb, hb⟩
  have HV0 := Lib.hid (HBB0.out.trans (hb.mono (Nat.le_trans HWL.out HBB0.out.size)))
  have HOA0 := Lib.hid (own_below HO0.out hb)
  have HOB0 := Lib.hid ho
  have H10 := Lib.hid h1
  have HM0 := Lib.hid hm
  clear ho h1 hm hb n0
  go_wp2_with (refine wpList_app (by rfl) (.tmp 21) (.tmp 25) 85 85 (by rfl) (X + 1) 150 i0 _ 3 24 Tryz.underlying85 hi0 hz0 hz1 hz2 (by rfl) _ (0 + 1) ([] ++ [iV 1, iV (-1), iV 1]) (by rfl) HOA0.out _ (by rfl) p0 ys0 (src_own Tryz.underlying85 HOB0.out H10.out) (by unfold maxLen; omega) (by omega) (Nat.le_trans HWL.out HV0.out.size) ?_; intro A1' c1' w1' ho hgr hbl; have HO1 := Lib.hid ho; have HBB1 := Lib.hid (app_below HV0.out HWL.out HOA0.out (Nat.le_refl _) hgr); clear ho hgr hbl; have n2 : w1'.cell? ⟨X, 2, none⟩ = some (.slice n.opA n.ops.length n.opC) := (HNB.out _ HBB1.out).2.box 2 _ rfl)
  have HI1 := Lib.hid (one_app HI0.out H10.out)
  have HQ1 := Lib.hid (and_zero HQ0.out HM0.out)
  clear HOA0 HOB0 HO0 HBB0 HI0 HP0 HV0
  have HP1 : Hid (NetP w1' X n) := (HNB.out _ HBB1.out).2
  go_wp2_with fail
  refine (check_op 2 6 112 114 #[.pointer (some ⟨X, 0, none⟩)] #[] (nmOp n) (fun _ => true) n.ops n.opA n.opC _ (fun i hi w' hb => opname_any X n i w' (HP1.out.below hb) hi) (fun x hx w' hb => opgood_any x w') (HK.out.below (HNB.out _ HBB1.out).1) HL.out.2.2.1 (by omega) (fun i _ => HNM.out.2.1 i) (by rw [encOp_map]; exact HP1.out.net.ops) (fun _ _ => rfl) (fun _ _ => rfl)).mono ?_
  rintro e v1 ⟨B1, p1, d1, ys1, rfl, ho, h1, hm, hmb, hb⟩
  have HV1 := Lib.hid (HBB1.out.trans (hb.mono (Nat.le_trans HWL.out HBB1.out.size)))
  have HOA1 := Lib.hid (own_below HO1.out hb)
  have HOB1 := Lib.hid ho
  have H11 := Lib.hid h1
  have HM1 := Lib.hid hm
  clear ho h1 hm hb n2
  go_wp2_with (refine wpList_app (by rfl) (.tmp 28) (.tmp 32) 85 85 (by rfl) (X + 1) 150 i0 _ 3 24 Tryz.underlying85 hi0 hz0 hz1 hz2 (by rfl) _ (0 + 1 + p0) ([] ++ [iV 1, iV (-1), iV 1] ++ ys0) (by rfl) HOA1.out _ (by rfl) p1 ys1 (src_own Tryz.underlying85 HOB1.out H11.out) (by unfold maxLen; omega) (by omega) (Nat.le_trans HWL.out HV1.out.size) ?_; intro A2' c2' w2' ho hgr hbl; have HO2 := Lib.hid ho; have HBB2 := Lib.hid (app_below HV1.out HWL.out HOA1.out (Nat.le_refl _) hgr); clear ho hgr hbl; have n3 : w2'.cell? ⟨X, 3, none⟩ = some (.slice n.offA n.offs.length n.offC) := (HNB.out _ HBB2.out).2.box 3 _ rfl)
  have HI2 := Lib.hid (one_app HI1.out H11.out)
  have HQ2 := Lib.hid (and_zero HQ1.out HM1.out)
  clear HOA1 HOB1 HO1 HBB1 HI1 HP1 HV1
  have HP2 : Hid (NetP w2' X n) := (HNB.out _ HBB2.out).2
  go_wp2_with fail
  refine (check_off 3 12 115 117 #[.pointer (some ⟨X, 0, none⟩)] #[.pointer (some ⟨X, 0, none⟩)] (nmOff n) (officeB n) n.offs n.offA n.offC _ (fun i hi w' hb => offname_any X n i w' (HP2.out.below hb) hi) (fun x hx w' hb => offgood_any X n x w' (HP2.out.below hb) ((HP2.out.net.off x hx).below hb)) (HK.out.below (HNB.out _ HBB2.out).1) HL.out.2.2.2.1 (by omega) (fun i _ => HNM.out.2.2.1 i) (HP2.out.net.offs) (fun _ _ => rfl) (fun _ _ => rfl)).mono ?_
  rintro e v2 ⟨B2, p2, d2, ys2, rfl, ho, h1, hm, hmb, hb⟩
  have HV2 := Lib.hid (HBB2.out.trans (hb.mono (Nat.le_trans HWL.out HBB2.out.size)))
  have HOA2 := Lib.hid (own_below HO2.out hb)
  have HOB2 := Lib.hid ho
  have H12 := Lib.hid h1
  have HM2 := Lib.hid hm
  clear ho h1 hm hb n3
  go_wp2_with (refine wpList_app (by rfl) (.tmp 35) (.tmp 40) 85 85 (by rfl) (X + 1) 150 i0 _ 3 24 Tryz.underlying85 hi0 hz0 hz1 hz2 (by rfl) _ (0 + 1 + p0 + p1) ([] ++ [iV 1, iV (-1), iV 1] ++ ys0 ++ ys1) (by rfl) HOA2.out _ (by rfl) p2 ys2 (src_own Tryz.underlying85 HOB2.out H12.out) (by unfold maxLen; omega) (by omega) (Nat.le_trans HWL.out HV2.out.size) ?_; intro A3' c3' w3' ho hgr hbl; have HO3 := Lib.hid ho; have HBB3 := Lib.hid (app_below HV2.out HWL.out HOA2.out (Nat.le_refl _) hgr); clear ho hgr hbl; have n4 : w3'.cell? ⟨X, 4, none⟩ = some (.slice n.linA n.lins.length n.linC) := (HNB.out _ HBB3.out).2.box 4 _ rfl)
  have HI3 := Lib.hid (one_app HI2.out H12.out)
  have HQ3 := Lib.hid (and_zero HQ2.out HM2.out)
  clear HOA2 HOB2 HO2 HBB2 HI2 HP2 HV2
  have HP3 : Hid (NetP w3' X n) := (HNB.out _ HBB3.out).2
  go_wp2_with fail
  refine (check_lin 4 40 119 121 #[.pointer (some ⟨X, 0, none⟩)] #[.pointer (some ⟨X, 0, none⟩)] (nmLin n) (lineB n) n.lins n.linA n.linC _ (fun i hi w' hb => linname_any X n i w' (HP3.out.below hb) hi) (fun x hx w' hb => lingood_any X n x w' (HP3.out.below hb)) (HK.out.below (HNB.out _ HBB3.out).1) HL.out.2.2.2.2.1 (by omega) (fun i _ => HNM.out.2.2.2.1 i) (HP3.out.net.lins) (fun _ _ => rfl) (fun _ _ => rfl)).mono ?_
  rintro e v3 ⟨B3, p3, d3, ys3, rfl, ho, h1, hm, hmb, hb⟩
  have HV3 := Lib.hid (HBB3.out.trans (hb.mono (Nat.le_trans HWL.out HBB3.out.size)))
  have HOA3 := Lib.hid (own_below HO3.out hb)
  have HOB3 := Lib.hid ho
  have H13 := Lib.hid h1
  have HM3 := Lib.hid hm
  clear ho h1 hm hb n4
  go_wp2_with (refine wpList_app (by rfl) (.tmp 43) (.tmp 48) 85 85 (by rfl) (X + 1) 150 i0 _ 3 24 Tryz.underlying85 hi0 hz0 hz1 hz2 (by rfl) _ (0 + 1 + p0 + p1 + p2) ([] ++ [iV 1, iV (-1), iV 1] ++ ys0 ++ ys1 ++ ys2) (by rfl) HOA3.out _ (by rfl) p3 ys3 (src_own Tryz.underlying85 HOB3.out H13.out) (by unfold maxLen; omega) (by omega) (Nat.le_trans HWL.out HV3.out.size) ?_; intro A4' c4' w4' ho hgr hbl; have HO4 := Lib.hid ho; have HBB4 := Lib.hid (app_below HV3.out HWL.out HOA3.out (Nat.le_refl _) hgr); clear ho hgr hbl; have n5 : w4'.cell? ⟨X, 5, none⟩ = some (.slice n.clsA n.clss.length n.clsC) := (HNB.out _ HBB4.out).2.box 5 _ rfl)
  have HI4 := Lib.hid (one_app HI3.out H13.out)
  have HQ4 := Lib.hid (and_zero HQ3.out HM3.out)
  clear HOA3 HOB3 HO3 HBB3 HI3 HP3 HV3
  have HP4 : Hid (NetP w4' X n) := (HNB.out _ HBB4.out).2
  go_wp2_with fail
  refine (check_cls 5 4 123 125 #[.pointer (some ⟨X, 0, none⟩)] #[] (nmCls n) clsB n.clss n.clsA n.clsC _ (fun i hi w' hb => clsname_any X n i w' (HP4.out.below hb) hi) (fun x hx w' hb => clsgood_any x w') (HK.out.below (HNB.out _ HBB4.out).1) HL.out.2.2.2.2.2 (by omega) (fun i _ => HNM.out.2.2.2.2 i) (HP4.out.net.clss) (fun _ _ => rfl) (fun _ _ => rfl)).mono ?_
  rintro e v4 ⟨B4, p4, d4, ys4, rfl, ho, h1, hm, hmb, hb⟩
  have HV4 := Lib.hid (HBB4.out.trans (hb.mono (Nat.le_trans HWL.out HBB4.out.size)))
  have HOA4 := Lib.hid (own_below HO4.out hb)
  have HOB4 := Lib.hid ho
  have H14 := Lib.hid h1
  have HM4 := Lib.hid hm
  clear ho h1 hm hb n5
  go_wp2_with (refine wpList_app (by rfl) (.tmp 51) (.tmp 55) 85 85 (by rfl) (X + 1) 150 i0 _ 3 24 Tryz.underlying85 hi0 hz0 hz1 hz2 (by rfl) _ (0 + 1 + p0 + p1 + p2 + p3) ([] ++ [iV 1, iV (-1), iV 1] ++ ys0 ++ ys1 ++ ys2 ++ ys3) (by rfl) HOA4.out _ (by rfl) p4 ys4 (src_own Tryz.underlying85 HOB4.out H14.out) (by unfold maxLen; omega) (by omega) (Nat.le_trans HWL.out HV4.out.size) ?_; intro A5' c5' w5' ho hgr hbl; have HO5 := Lib.hid ho; have HBB5 := Lib.hid (app_below HV4.out HWL.out HOA4.out (Nat.le_refl _) hgr); clear ho hgr hbl)
  have HI5 := Lib.hid (one_app HI4.out H14.out)
  have HQ5 := Lib.hid (and_zero HQ4.out HM4.out)
  clear HOA4 HOB4 HO4 HBB4 HI4 HP4 HV4
  go_ret
  exact ⟨_, _, _, _, rfl, own_base HO5.out (by have := HX.out; omega), HI5.out, HQ5.out.trans ⟨fun h => ⟨h.1.1.1.1.1, h.1.1.1.1.2, h.1.1.1.2, h.1.1.2, h.1.2, h.2⟩, fun h => ⟨⟨⟨⟨⟨h.same, h.cal⟩, h.op⟩, h.off⟩, h.lin⟩, h.cls⟩⟩, by omega, (HNB.out _ HBB5.out).1⟩
abbrev Mat := Nat -> Nat -> Int
def updM (M : Mat) (a b : Nat) (L : Int) : Mat := fun x y => if x = a /\ y = b then L else M x y
def relaxM (M : Mat) (a b : Nat) (L : Int) : Mat := if M a b = -1 ∨ L < M a b then updM M a b L else M
def stepM (k a : Nat) (M : Mat) (b : Nat) : Mat := if M a k ≠ -1 /\ M k b ≠ -1 then relaxM M a b (M a k + M k b) else M
def rowM (k a m : Nat) (M : Mat) : Mat := (List.range m).foldl (stepM k a) M
def stageM (k m : Nat) (M : Mat) : Mat := (List.range m).foldl (fun M a => rowM k a 12 M) M
def allM (m : Nat) (M : Mat) : Mat := (List.range m).foldl (fun M k => stageM k 12 M) M
def zeroM : Mat := fun a b => if a = b then 0 else -1
def edgesM (es : List (Nat × Nat × Int)) : Mat := es.foldl (fun M e => relaxM M e.1 e.2.1 e.2.2) zeroM
theorem rowM_succ (k a m : Nat) (M : Mat) : rowM k a (m + 1) M = stepM k a (rowM k a m M) m := by simp [rowM, List.range_succ]
theorem stageM_succ (k m : Nat) (M : Mat) : stageM k (m + 1) M = rowM k m 12 (stageM k m M) := by simp [stageM, List.range_succ]
theorem allM_succ (m : Nat) (M : Mat) : allM (m + 1) M = stageM m 12 (allM m M) := by simp [allM, List.range_succ]
inductive Wlk (es : List (Nat × Nat × Int)) : Nat -> Nat -> Int -> Prop
 | nil (a : Nat) : Wlk es a a 0
 | cons {a b c : Nat} {L K : Int} (h : (a, b, L) ∈ es) (t : Wlk es b c K) : Wlk es a c (L + K)
theorem Wlk.trans {es : List (Nat × Nat × Int)} {a b c : Nat} {L K : Int} (h : Wlk es a b L) (k : Wlk es b c K) : Wlk es a c (L + K) := by
 induction h with
 | nil a => simpa using k
 | cons h t ih => have := Wlk.cons h (ih k); rwa [Int.add_assoc]
def Dk (es : List (Nat × Nat × Int)) : Nat -> Nat -> Nat -> Int -> Prop
 | 0, a, b, L => (a = b /\ L = 0) ∨ (a, b, L) ∈ es
 | k + 1, a, b, L => Dk es k a b L ∨ ∃ L1 L2, Dk es k a k L1 /\ Dk es k k b L2 /\ L = L1 + L2
def EdgesIn (es : List (Nat × Nat × Int)) (B : Int) : Prop := ∀ e ∈ es, e.1 < 12 /\ e.2.1 < 12 /\ 0 <= e.2.2 /\ e.2.2 <= B
theorem Dk.nonneg {es : List (Nat × Nat × Int)} {B : Int} (he : EdgesIn es B) : ∀ {k a b : Nat} {L : Int}, Dk es k a b L -> 0 <= L
 | 0, a, b, L, h => by
  rcases h with ⟨_, rfl⟩ | h
  ·exact Int.le_refl _
  ·exact (he _ h).2.2.1
 | k + 1, a, b, L, h => by
  rcases h with h | ⟨L1, L2, h1, h2, rfl⟩
  ·exact Dk.nonneg he h
  ·have := Dk.nonneg he h1
   have := Dk.nonneg he h2
   omega
theorem Dk.up {es : List (Nat × Nat × Int)} {a b : Nat} {L : Int} : ∀ {k m : Nat}, k <= m -> Dk es k a b L -> Dk es m a b L
 | k, 0, hk, h => by obtain rfl : k = 0 := by omega
                     exact h
 | k, m + 1, hk, h => by
  rcases Nat.lt_or_ge m k with h1 | h1
  ·obtain rfl : k = m + 1 := by omega
   exact h
  ·exact .inl (Dk.up h1 h)
def Pk (es : List (Nat × Nat × Int)) (k a b : Nat) (L : Int) : Prop := ∃ K, K <= L /\ Dk es k a b K
theorem Pk.of {es : List (Nat × Nat × Int)} {k a b : Nat} {L : Int} (h : Dk es k a b L) : Pk es k a b L := ⟨L, Int.le_refl _, h⟩
theorem Pk.le {es : List (Nat × Nat × Int)} {k a b : Nat} {L K : Int} (h : Pk es k a b L) (hk : L <= K) : Pk es k a b K := by
 obtain ⟨X, h1, h2⟩ := h
 exact ⟨X, by omega, h2⟩
theorem Pk.succ {es : List (Nat × Nat × Int)} {k a b : Nat} {L : Int} (h : Pk es k a b L) : Pk es (k + 1) a b L := by
 obtain ⟨X, h1, h2⟩ := h
 exact ⟨X, h1, .inl h2⟩
theorem Pk.via {es : List (Nat × Nat × Int)} {k a b : Nat} {L K : Int} (h : Pk es k a k L) (g : Pk es k k b K) : Pk es (k + 1) a b (L + K) := by
 obtain ⟨X, h1, h2⟩ := h
 obtain ⟨Y, g1, g2⟩ := g
 exact ⟨X + Y, by omega, .inr ⟨X, Y, h2, g2, rfl⟩⟩
theorem Pk.trans {es : List (Nat × Nat × Int)} {B : Int} (he : EdgesIn es B) {c : Nat} : ∀ {k a b : Nat} {L K : Int}, c < k -> Pk es k a c L -> Pk es k c b K -> Pk es k a b (L + K)
 | 0, _, _, _, _, hc, _, _ => by omega
 | k + 1, a, b, L, K, hc, ⟨X, hX, hx⟩, ⟨Y, hY, hy⟩ => by
  by_cases hck : c = k
  ·subst hck
   have p1 : Pk es c a c L := by
    rcases hx with hx | ⟨X1, X2, x1, x2, rfl⟩
    ·exact ⟨X, hX, hx⟩
    ·exact ⟨X1, by have := x2.nonneg he; omega, x1⟩
   have p2 : Pk es c c b K := by
    rcases hy with hy | ⟨Y1, Y2, y1, y2, rfl⟩
    ·exact ⟨Y, hY, hy⟩
    ·exact ⟨Y2, by have := y1.nonneg he; omega, y2⟩
   exact p1.via p2
  ·have hlt : c < k := by omega
   rcases hx with hx | ⟨X1, X2, x1, x2, rfl⟩
   ·rcases hy with hy | ⟨Y1, Y2, y1, y2, rfl⟩
    ·exact (Pk.trans he hlt ⟨X, hX, hx⟩ ⟨Y, hY, hy⟩).succ
    ·have h1 := Pk.trans he hlt ⟨X, hX, hx⟩ (Pk.of y1)
     exact (h1.via (Pk.of y2)).le (by omega)
   ·rcases hy with hy | ⟨Y1, Y2, y1, y2, rfl⟩
    ·have h1 := Pk.trans he hlt (Pk.of x2) ⟨Y, hY, hy⟩
     exact ((Pk.of x1).via h1).le (by omega)
    ·have := x2.nonneg he
     have := y1.nonneg he
     exact ((Pk.of x1).via (Pk.of y2)).le (by omega)
theorem Wlk.pk {es : List (Nat × Nat × Int)} {B : Int} (he : EdgesIn es B) {a b : Nat} {L : Int} (h : Wlk es a b L) : Pk es 12 a b L := by
 induction h with
 | nil a => exact Pk.of (Dk.up (k := 0) (by omega) (.inl ⟨rfl, rfl⟩))
 | cons h t ih => exact Pk.trans he (he _ h).2.1 (Pk.of (Dk.up (k := 0) (by omega) (.inr h))) ih
structure OkM (es : List (Nat × Nat × Int)) (B : Int) (M : Mat) : Prop where
 diag : ∀ a, M a a = 0
 rng : ∀ a b, M a b = -1 ∨ 0 <= M a b /\ M a b <= B
 snd : ∀ a b, M a b ≠ -1 -> Wlk es a b (M a b)
theorem upd_same (M : Mat) (a b : Nat) (L : Int) : updM M a b L a b = L := by simp [updM]
theorem upd_other (M : Mat) {a b x y : Nat} (L : Int) (h : ¬ (x = a /\ y = b)) : updM M a b L x y = M x y := by simp [updM, h]
theorem OkM.mono {es : List (Nat × Nat × Int)} {B C : Int} {M : Mat} (h : OkM es B M) (hc : B <= C) : OkM es C M :=
 ⟨h.diag, fun a b => (h.rng a b).imp id fun ⟨p, q⟩ => ⟨p, by omega⟩, h.snd⟩
theorem OkM.relax {es : List (Nat × Nat × Int)} {B : Int} {M : Mat} (h : OkM es B M) {a b : Nat} {L : Int} (h0 : 0 <= L) (hB : L <= B) (hw : Wlk es a b L) : OkM es B (relaxM M a b L) := by
 unfold relaxM
 split
 case isFalse => exact h
 case isTrue hc =>
  refine ⟨fun x => ?_, fun x y => ?_, fun x y hne => ?_⟩
  ·by_cases hx : x = a /\ x = b
   ·obtain ⟨rfl, rfl⟩ := hx
    have := h.diag x
    exfalso
    rcases hc with hc | hc <;> omega
   ·rw [upd_other _ _ hx]; exact h.diag x
  ·by_cases hx : x = a /\ y = b
   ·obtain ⟨rfl, rfl⟩ := hx
    rw [upd_same]; exact .inr ⟨h0, hB⟩
   ·rw [upd_other _ _ hx]; exact h.rng x y
  ·by_cases hx : x = a /\ y = b
   ·obtain ⟨rfl, rfl⟩ := hx
    rw [upd_same]; exact hw
   ·rw [upd_other _ _ hx] at hne ⊢; exact h.snd x y hne
theorem relax_le (M : Mat) (a b : Nat) (L : Int) (h0 : 0 <= L) (x y : Nat) : M x y ≠ -1 -> relaxM M a b L x y ≠ -1 /\ relaxM M a b L x y <= M x y := by
 intro h
 unfold relaxM
 split
 case isFalse => exact ⟨h, Int.le_refl _⟩
 case isTrue hc =>
  by_cases hx : x = a /\ y = b
  ·obtain ⟨rfl, rfl⟩ := hx
   rw [upd_same]
   rcases hc with hc | hc
   ·exact absurd hc h
   ·exact ⟨by omega, by omega⟩
  ·rw [upd_other _ _ hx]; exact ⟨h, Int.le_refl _⟩
theorem relax_at (M : Mat) (a b : Nat) (L : Int) (h0 : 0 <= L) : relaxM M a b L a b ≠ -1 /\ relaxM M a b L a b <= L := by
 unfold relaxM
 split
 case isFalse hc => exact ⟨fun h => hc (.inl h), by rcases Int.lt_or_le L (M a b) with h | h
                                                    ·exact absurd (.inr h) hc
                                                    ·exact h⟩
 case isTrue hc => rw [upd_same]; exact ⟨by omega, Int.le_refl _⟩
theorem edges_ok {es : List (Nat × Nat × Int)} {B : Int} (hB : 0 <= B) (he : EdgesIn es B) : OkM es B (edgesM es) /\ ∀ a b L, Dk es 0 a b L -> edgesM es a b ≠ -1 /\ edgesM es a b <= L := by
 have key : ∀ (fs ds : List (Nat × Nat × Int)) (M : Mat), (∀ e ∈ fs, e ∈ es) -> OkM es B M -> (∀ a b L, (a = b /\ L = 0) ∨ (a, b, L) ∈ ds -> M a b ≠ -1 /\ M a b <= L) ->
   OkM es B (fs.foldl (fun M e => relaxM M e.1 e.2.1 e.2.2) M) /\ ∀ a b L, (a = b /\ L = 0) ∨ (a, b, L) ∈ ds ++ fs -> fs.foldl (fun M e => relaxM M e.1 e.2.1 e.2.2) M a b ≠ -1 /\ fs.foldl (fun M e => relaxM M e.1 e.2.1 e.2.2) M a b <= L := by
  intro fs
  induction fs with
  | nil => intro ds M _ hM hd; simpa using ⟨hM, hd⟩
  | cons e fs ih =>
   intro ds M hfs hM hd
   have hee := he e (hfs e (by simp))
   have hw : Wlk es e.1 e.2.1 e.2.2 := by
    have := Wlk.cons (es := es) (a := e.1) (b := e.2.1) (L := e.2.2) (hfs e (by simp)) (Wlk.nil _)
    simpa using this
   have := ih (ds ++ [e]) (relaxM M e.1 e.2.1 e.2.2) (fun x hx => hfs x (by simp [hx])) (hM.relax hee.2.2.1 hee.2.2.2 hw) (fun a b L h => by
    rcases h with h | h
    ·have h1 := hd a b L (.inl h)
     have h2 := relax_le M e.1 e.2.1 e.2.2 hee.2.2.1 a b h1.1
     exact ⟨h2.1, by omega⟩
    ·rcases List.mem_append.1 h with h | h
     ·have h1 := hd a b L (.inr h)
      have h2 := relax_le M e.1 e.2.1 e.2.2 hee.2.2.1 a b h1.1
      exact ⟨h2.1, by omega⟩
     ·simp at h
      subst h
      exact relax_at M a b L hee.2.2.1)
   simpa using this
 have h0 : OkM es B zeroM := by
  refine ⟨fun a => by simp [zeroM], fun a b => ?_, fun a b h => ?_⟩
  ·unfold zeroM; split
   ·exact .inr ⟨Int.le_refl _, hB⟩
   ·exact .inl rfl
  ·by_cases hab : a = b
   ·subst hab
    have : zeroM a a = 0 := by simp [zeroM]
    rw [this]; exact Wlk.nil a
   ·simp [zeroM, hab] at h
 have := key es [] zeroM (fun e h => h) h0 (fun a b L h => by
  rcases h with ⟨rfl, rfl⟩ | h
  ·simp [zeroM]
  ·cases h)
 exact ⟨this.1, fun a b L h => this.2 a b L (by simpa [Dk] using h)⟩
structure MidM (es : List (Nat × Nat × Int)) (B : Int) (M : Mat) (k : Nat) (N : Mat) (D : Nat -> Nat -> Prop) : Prop where
 ok : OkM es (B + B) N
 col : ∀ a, N a k = M a k
 row : ∀ b, N k b = M k b
 le : ∀ a b, M a b ≠ -1 -> N a b ≠ -1 /\ N a b <= M a b
 dn : ∀ a b, D a b -> M a k ≠ -1 -> M k b ≠ -1 -> N a b ≠ -1 /\ N a b <= M a k + M k b
theorem MidM.mono {es : List (Nat × Nat × Int)} {B : Int} {M N : Mat} {k : Nat} {D D' : Nat -> Nat -> Prop} (h : MidM es B M k N D) (hd : ∀ a b, D' a b -> D a b) : MidM es B M k N D' :=
 ⟨h.ok, h.col, h.row, h.le, fun a b hab => h.dn a b (hd a b hab)⟩
theorem MidM.step {es : List (Nat × Nat × Int)} {B : Int} {M N : Mat} {k : Nat} {D : Nat -> Nat -> Prop} (hM : OkM es B M) (h : MidM es B M k N D) (a b : Nat) :
  MidM es B M k (stepM k a N b) (fun x y => D x y ∨ (x = a /\ y = b)) := by
 unfold stepM
 rw [h.col, h.row]
 by_cases hc : M a k ≠ -1 /\ M k b ≠ -1
 case neg =>
  rw [if_neg hc]
  refine ⟨h.ok, h.col, h.row, h.le, fun x y hd h1 h2 => ?_⟩
  rcases hd with hd | ⟨rfl, rfl⟩
  ·exact h.dn x y hd h1 h2
  ·exact absurd ⟨h1, h2⟩ hc
 case pos =>
  rw [if_pos hc]
  have r1 := (hM.rng a k).resolve_left hc.1
  have r2 := (hM.rng k b).resolve_left hc.2
  have hL : 0 <= M a k + M k b := by omega
  have hw := (hM.snd a k hc.1).trans (hM.snd k b hc.2)
  have keep : a = k ∨ b = k -> relaxM N a b (M a k + M k b) = N := by
   intro hk
   unfold relaxM
   rw [if_neg]
   rintro (h1 | h1)
   ·rcases hk with rfl | rfl
    ·rw [h.row] at h1; exact hc.2 h1
    ·rw [h.col] at h1; exact hc.1 h1
   ·rcases hk with rfl | rfl
    ·rw [h.row, hM.diag] at h1; omega
    ·rw [h.col, hM.diag] at h1; omega
  refine ⟨h.ok.relax hL (by omega) hw, fun x => ?_, fun y => ?_, fun x y hne => ?_, fun x y hd h1 h2 => ?_⟩
  ·by_cases hk : a = k ∨ b = k
   ·rw [keep hk]; exact h.col x
   ·unfold relaxM
    split
    ·rw [upd_other _ _ (by rintro ⟨_, rfl⟩; exact hk (.inr rfl))]; exact h.col x
    ·exact h.col x
  ·by_cases hk : a = k ∨ b = k
   ·rw [keep hk]; exact h.row y
   ·unfold relaxM
    split
    ·rw [upd_other _ _ (by rintro ⟨rfl, _⟩; exact hk (.inl rfl))]; exact h.row y
    ·exact h.row y
  ·have h1 := h.le x y hne
   have h2 := relax_le N a b (M a k + M k b) hL x y h1.1
   exact ⟨h2.1, by omega⟩
  ·rcases hd with hd | ⟨rfl, rfl⟩
   ·have h3 := h.dn x y hd h1 h2
    have h4 := relax_le N a b (M a k + M k b) hL x y h3.1
    exact ⟨h4.1, by omega⟩
   ·exact relax_at N x y _ hL
theorem MidM.rows {es : List (Nat × Nat × Int)} {B : Int} {M N : Mat} {k : Nat} {D : Nat -> Nat -> Prop} (hM : OkM es B M) (h : MidM es B M k N D) (a : Nat) : ∀ m, MidM es B M k (rowM k a m N) (fun x y => D x y ∨ (x = a /\ y < m))
 | 0 => h.mono fun x y hd => by rcases hd with hd | ⟨_, h⟩
                                ·exact hd
                                ·omega
 | m + 1 => by
  rw [rowM_succ]
  refine ((MidM.rows hM h a m).step hM a m).mono fun x y hd => ?_
  rcases hd with hd | ⟨rfl, h⟩
  ·exact .inl (.inl hd)
  ·by_cases hy : y = m
   ·exact .inr ⟨rfl, hy⟩
   ·exact .inl (.inr ⟨rfl, by omega⟩)
theorem MidM.start {es : List (Nat × Nat × Int)} {B : Int} {M : Mat} (hB : 0 <= B) (hM : OkM es B M) (k : Nat) : MidM es B M k M (fun _ _ => False) :=
 ⟨hM.mono (by omega), fun _ => rfl, fun _ => rfl, fun _ _ h => ⟨h, Int.le_refl _⟩, fun _ _ h => h.elim⟩
theorem MidM.stage {es : List (Nat × Nat × Int)} {B : Int} {M : Mat} (hB : 0 <= B) (hM : OkM es B M) (k : Nat) : ∀ m, MidM es B M k (stageM k m M) (fun x y => x < m /\ y < 12)
 | 0 => (MidM.start hB hM k).mono fun x y h => by omega
 | m + 1 => by
  rw [stageM_succ]
  refine ((MidM.stage hB hM k m).rows hM m 12).mono fun x y ⟨h1, h2⟩ => ?_
  by_cases hx : x = m
  ·exact .inr ⟨hx, h2⟩
  ·exact .inl ⟨by omega, h2⟩
theorem all_ok {es : List (Nat × Nat × Int)} {B : Int} (hB : 0 <= B) (he : EdgesIn es B) : ∀ k, k <= 12 -> OkM es (B * 2 ^ k) (allM k (edgesM es)) /\ ∀ a b L, a < 12 -> b < 12 -> Dk es k a b L -> allM k (edgesM es) a b ≠ -1 /\ allM k (edgesM es) a b <= L
 | 0, _ => by
  have := edges_ok hB he
  exact ⟨by simpa [allM] using this.1, fun a b L _ _ h => by simpa [allM] using this.2 a b L h⟩
 | k + 1, hk => by
  obtain ⟨h1, h2⟩ := all_ok hB he k (by omega)
  have hp : 0 <= B * 2 ^ k := Int.mul_nonneg hB (Int.pow_nonneg (by omega))
  have hm := MidM.stage hp h1 k 12
  rw [allM_succ]
  refine ⟨?_, fun a b L ha hb h => ?_⟩
  ·have := hm.ok
   rwa [show B * 2 ^ k + B * 2 ^ k = B * 2 ^ (k + 1) by rw [Int.pow_succ, <- Int.mul_assoc]; omega] at this
  ·rcases h with h | ⟨L1, L2, g1, g2, rfl⟩
   ·have h3 := h2 a b L ha hb h
    have h4 := hm.le a b h3.1
    exact ⟨h4.1, by omega⟩
   ·have h3 := h2 a k L1 ha (by omega) g1
    have h4 := h2 k b L2 (by omega) hb g2
    have h5 := hm.dn a b ⟨ha, hb⟩ h3.1 h4.1
    exact ⟨h5.1, by omega⟩
def distM (es : List (Nat × Nat × Int)) : Mat := allM 12 (edgesM es)
theorem dist_walk {es : List (Nat × Nat × Int)} {B : Int} (hB : 0 <= B) (he : EdgesIn es B) {a b : Nat} (h : distM es a b ≠ -1) : Wlk es a b (distM es a b) := (all_ok hB he 12 (by omega)).1.snd a b h
theorem dist_le {es : List (Nat × Nat × Int)} {B : Int} (hB : 0 <= B) (he : EdgesIn es B) {a b : Nat} (ha : a < 12) (hb : b < 12) {L : Int} (h : Wlk es a b L) : distM es a b ≠ -1 /\ distM es a b <= L := by
 obtain ⟨K, h1, h2⟩ := h.pk he
 have := (all_ok hB he 12 (by omega)).2 a b K ha hb h2
 exact ⟨this.1, by unfold distM; omega⟩
def Blk (w : World) (R : Nat) (M : Mat) : Prop := ∃ cs : Array Value, w.heap[R]? = some (.cells cs 117 (0, 0)) /\ cs.size = 144 /\ ∀ a b, a < 12 -> b < 12 -> cs[a * 12 + b]? = some (iV (M a b))
theorem Blk.cell {w : World} {R : Nat} {M : Mat} (h : Blk w R M) {a b : Nat} (ha : a < 12) (hb : b < 12) : w.cell? ⟨R, a * 12 + b, none⟩ = some (iV (M a b)) /\ w.frozen? ⟨R, a * 12 + b, none⟩ = false := by
 obtain ⟨cs, h1, _, h3⟩ := h
 exact ⟨cell_of_row _ _ _ _ _ _ h1 |>.trans (h3 a b ha hb), frozen_row h1 _⟩
theorem Blk.lt {w : World} {R : Nat} {M : Mat} (h : Blk w R M) : R < w.heap.size := by
 obtain ⟨cs, h1, _, _⟩ := h
 exact block_lt h1
theorem Blk.kept {w w' : World} {R : Nat} {M : Mat} (h : Blk w R M) (hk : w'.heap[R]? = w.heap[R]?) : Blk w' R M := by
 obtain ⟨cs, h1, h2, h3⟩ := h
 exact ⟨cs, hk.trans h1, h2, h3⟩
theorem Blk.below {w w' : World} {R : Nat} {M : Mat} (h : Blk w R M) (hb : Below w.heap.size w w') : Blk w' R M := h.kept (hb.block _ h.lt)
theorem Blk.set {w : World} {R : Nat} {M : Mat} (h : Blk w R M) {a b : Nat} (_ha : a < 12) (hb : b < 12) (L : Int) : Blk (w.setCell ⟨R, a * 12 + b, none⟩ (iV L)) R (updM M a b L) := by
 obtain ⟨cs, h1, h2, h3⟩ := h
 refine ⟨cs.setIfInBounds (a * 12 + b) (iV L), by simp [World.setCell, Array.getElem?_modify, h1], by simp [h2], fun x y hx hy => ?_⟩
 by_cases he : x = a /\ y = b
 ·obtain ⟨rfl, rfl⟩ := he
  rw [upd_same, Array.getElem?_setIfInBounds_self_of_lt (by rw [h2]; omega)]
 ·rw [upd_other _ _ he, Array.getElem?_setIfInBounds_ne (by omega)]
  exact h3 x y hx hy
theorem grown_set (w : World) (R o : Nat) (v : Value) : w.grownBy (w.setCell ⟨R, o, none⟩ v) (some R) :=
 ⟨rfl, rfl, rfl, by simp, fun i _ hi => Below.heap_setCell w ⟨R, o, none⟩ v i (fun e => hi (by rw [e]))⟩
theorem relax_any (R : Nat) (M : Mat) (a b : Nat) (L : Int) (w : World) (h : Blk w R M) (ha : a < 12) (hb : b < 12) :
  Calls Tryz.prog 127 #[iV a, iV b, iV L, .pointer (some ⟨R, 0, none⟩)] w fun e w' => e = .returned (.tuple #[]) /\ Blk w' R (relaxM M a b L) /\ w.grownBy w' (some R) := by
 obtain ⟨hc, hfz⟩ := h.cell ha hb
 have H := Lib.hid h; clear h
 have j1 : (0 : Int) <= (a : Int) := by omega
 have j2 : (a : Int) < 12 := by omega
 have j3 : (0 : Int) <= (b : Int) := by omega
 have j4 : (b : Int) < 12 := by omega
 have HN : Hid (w.grownBy w (some R)) := ⟨rfl, rfl, rfl, Nat.le_refl _, fun _ _ _ => rfl⟩
 by_cases h1 : M a b = -1
 ·have HR : Hid (relaxM M a b L = updM M a b L) := if_pos (.inl h1)
  have h1' : (M a b == -1) = true := by simpa using h1
  clear h1
  go_enter Tryz.func127, Tryz.ntmps127
  go_wp2_with fail
  go_end0
  exact ⟨rfl, by rw [HR.out]; exact H.out.set ha hb L, grown_set _ _ _ _⟩
 ·have h1' : (M a b == -1) = false := by simpa using h1
  by_cases h2 : L < M a b
  ·have HR : Hid (relaxM M a b L = updM M a b L) := if_pos (.inr h2)
   clear h1
   go_enter Tryz.func127, Tryz.ntmps127
   go_wp2_with fail
   go_end0
   exact ⟨rfl, by rw [HR.out]; exact H.out.set ha hb L, grown_set _ _ _ _⟩
  ·have HR : Hid (relaxM M a b L = M) := if_neg (fun h => h.elim h1 h2)
   clear h1
   go_enter Tryz.func127, Tryz.ntmps127
   go_wp2_with fail
   go_end0
   exact ⟨rfl, by rw [HR.out]; exact H.out, HN.out⟩
end Go.Proofs.YtpeaiphdkgifaaaGreatDoor
