/-
  The walk over survey.inconsistencies. The walks over survey.Check and promise.sound. The walks over promise.Way, Ready, Delivery and Cutoff. The walk over promise.days: the days that a cut-off needs.
-/
import Derived.Test.YtjpabeoflhkfkaaGreatDoorPg
import Derived.Test.YtjpabeoflhkfkaaGreatDoorPh
import Derived.Test.YtjpabeoflhkfkaaGreatDoorPi
import Derived.Test.YtjpabeoflhkfkaaGreatDoorPc
namespace Go.Proofs.YtjpabeoflhkfkaaGreatDoor
open Go.RowKit

/-- A network without inconsistencies. -/
structure Cons (n : Net) : Prop where
  same : n.names.length = n.cals.length
  cal : n.cals.length ≤ 6 ∧ ∀ i < n.cals.length, okAt (nmCal n) calB n.cals i
  op : n.ops.length ≤ 6 ∧ ∀ i < n.ops.length, okAt (nmOp n) (fun _ => true) n.ops i
  off : n.offs.length ≤ 12 ∧ ∀ i < n.offs.length, okAt (nmOff n) (officeB n) n.offs i
  lin : n.lins.length ≤ 40 ∧ ∀ i < n.lins.length, okAt (nmLin n) (lineB n) n.lins i
  cls : n.clss.length ≤ 4 ∧ ∀ i < n.clss.length, okAt (nmCls n) clsB n.clss i
/-- What inconsistencies leaves. -/
def InconR (w : World) (ok : Prop) (e : Ending) (w' : World) : Prop :=
  ∃ A m c xs, e = .returned (.slice A m c) ∧ w'.ownsRow w.heap.size 138 3 (.slice A m c) m xs ∧ (∀ x ∈ xs, x.oneCell' = true) ∧ (m = 0 ↔ ok) ∧ m ≤ 300 ∧ Below w.heap.size w w'
theorem src_own {P : Program} {w : World} {base : Nat} {e tx e' : TypeId} {size : Nat} {A : Option Addr} {m c : Nat} {xs : List Value} (hk : P.underlying tx = some (.slice e')) (h : w.ownsRow base e size (.slice A m c) m xs) (h1 : ∀ u ∈ xs, u.oneCell' = true) : Src P size tx (.slice A m c) m xs w := by
  have hl := h.1
  rcases h.2 with ⟨hv, h0⟩ | ⟨g, cap, cur, hv, hb, hg, hc, hm, hs, ht⟩
  · cases hv
    have : xs = [] := List.eq_nil_of_length_eq_zero (by simpa using hl)
    subst this
    exact Src.ofNil w hk 0
  · cases hv
    exact Src.ofSlice w hk ⟨g, 0, none⟩ m c xs hl (fun j u hu => h.cells (g := g) rfl j u hu) h1
theorem one_app {xs ys : List Value} (h : ∀ x ∈ xs, x.oneCell' = true) (k : ∀ x ∈ ys, x.oneCell' = true) : ∀ x ∈ xs ++ ys, x.oneCell' = true := fun x hx => (List.mem_append.1 hx).elim (h x) (k x)
theorem nm_len {w : World} {n : Net} (h : NetIn w n) : (∀ i, (nmCal n i).length ≤ maxLen) ∧ (∀ i, (nmOp n i).length ≤ maxLen) ∧ (∀ i, (nmOff n i).length ≤ maxLen) ∧ (∀ i, (nmLin n i).length ≤ maxLen) ∧ ∀ i, (nmCls n i).length ≤ maxLen := by
  have g : ∀ {l : List (List UInt8)}, (∀ s ∈ l, s.length ≤ maxLen) → ∀ i, (l.getD i []).length ≤ maxLen := by
    intro l hl i
    by_cases hi : i < l.length
    · have : l.getD i [] = l[i] := by simp [List.getD, hi]
      rw [this]; exact hl _ (List.getElem_mem hi)
    · have : l.getD i [] = [] := by simp [List.getD, hi]
      rw [this]; exact Nat.zero_le _
  refine ⟨g h.name, g h.op, fun i => ?_, fun i => ?_, fun i => ?_⟩
  · by_cases hi : i < n.offs.length
    · exact (h.off _ (List.mem_of_getElem? (offAt_get hi))).1.1
    · have : offAt n i = zOff := by unfold offAt; simp [List.getD, hi]
      unfold nmOff; rw [this]; exact Nat.zero_le _
  · by_cases hi : i < n.lins.length
    · exact (h.lin _ (List.mem_of_getElem? (linAt_get hi))).1
    · have : linAt n i = zLin := by unfold linAt; simp [List.getD, hi]
      unfold nmLin; rw [this]; exact Nat.zero_le _
  · by_cases hi : i < n.clss.length
    · exact (h.cls _ (List.mem_of_getElem? (clsAt_get hi))).1
    · have : clsAt n i = zCls := by unfold clsAt; simp [List.getD, hi]
      unfold nmCls; rw [this]; exact Nat.zero_le _
theorem and_zero {m p : Nat} {P Q : Prop} (h : m = 0 ↔ P) (k : p = 0 ↔ Q) : m + p = 0 ↔ P ∧ Q :=
  ⟨fun e => ⟨h.1 (by omega), k.1 (by omega)⟩, fun ⟨a, b⟩ => by have := h.2 a; have := k.2 b; omega⟩
theorem and_zero0 {p : Nat} {P Q : Prop} (h : P) (k : p = 0 ↔ Q) : p = 0 ↔ P ∧ Q := ⟨fun e => ⟨h, k.1 e⟩, fun ⟨_, b⟩ => k.2 b⟩
theorem box_keep {w W wr : World} {X : Nat} {n : Net} (hn : NetIn w n) (hX : w.heap.size = X) (h0 : Below X w W) (hx : ∀ i v, (netCells n)[i]? = some v → W.cell? ⟨X, i, none⟩ = some v) (hb : Below (X + 1) W wr) : Below w.heap.size w wr ∧ NetP wr X n := by
  have h1 : Below w.heap.size w wr := by rw [hX]; exact h0.trans (hb.mono (by omega))
  exact ⟨h1, fun i v hv => (hb.cell (p := ⟨X, i, none⟩) (Nat.lt_succ_self _)).trans (hx i v hv), hn.below h1⟩
set_option maxHeartbeats 8000000 in
set_option maxRecDepth 100000 in
theorem incon_any (n : Net) (w : World) (hn : NetIn w n) (hk : KW w) :
    Calls Tryz.prog 75 #[netV n] w (InconR w (Cons n)) := by
  obtain ⟨i0, hi0, hz0, hz1, hz2⟩ := info_parts ftInfo
  have hb0 := ba w (netO n)
  have hl := hn.lens
  have HL := Lib.hid hl
  unfold maxLen at hl
  have HNM := Lib.hid (nm_len hn)
  have hx0 := heap_alloc_new w (netO n)
  have HNP : Hid (NetP (w.alloc (netO n)) w.heap.size n) := ⟨fun i v hv => (cell_of_row _ _ _ _ _ _ hx0).trans hv, hn.below hb0⟩
  have HK := Lib.hid hk
  have HNW := Lib.hid hn
  have HB0 := Lib.hid hb0
  have HWL : Hid (w.heap.size + 1 ≤ (w.alloc (netO n)).heap.size) := block_lt hx0
  clear hn hk hb0 hx0
  by_cases hsame : n.names.length = n.cals.length
  · have s1 : ((n.names.length : Int) != (n.cals.length : Int)) = false := by simp; omega
    have s2 : ((n.names.length : Int) == (n.cals.length : Int)) = true := by simp; omega
    have HS := Lib.hid hsame; clear hsame
    go_enter Tryz.func75, Tryz.ntmps75
    go_upto_region 1 with fail
    change Code.wp _ _ _ _ (w.alloc (netO n))
    generalize (w.alloc (netO n)) = W at *
    generalize hX : w.heap.size = X at *
    have HX := Lib.hid hX; clear hX
    have HNB : Hid (∀ wr, Below (X + 1) W wr → Below w.heap.size w wr ∧ NetP wr X n) := fun wr hb => box_keep HNW.out HX.out HB0.out HNP.out.box hb
    have HO0 : Hid (W.ownsRow (X + 1) 138 3 (.slice none 0 0) 0 []) := World.ownsRow_nil _ _ _ _
    have HBB0 : Hid (Below (X + 1) W W) := Below.refl _ _
    have HI0 : Hid (∀ x ∈ ([] : List Value), x.oneCell' = true) := fun x hx => by cases hx
    have n0 : W.cell? ⟨X, 0, none⟩ = some (.slice n.calA n.cals.length n.calC) := HNP.out.box 0 _ rfl
    have n1 : W.cell? ⟨X, 1, none⟩ = some (.slice n.namA n.names.length n.namC) := HNP.out.box 1 _ rfl
    have HP0 : Hid (NetP W X n) := (HNB.out _ HBB0.out).2
    go_wp2_with fail
    refine (check_cal 1 6 104 48 #[.pointer (some ⟨X, 0, none⟩)] #[] (nmCal n) calB n.cals n.calA n.calC _ (fun i hi w' hb => calname_any X n i w' (HP0.out.below hb)) (fun x hx w' hb => valid_any x w' ((HP0.out.net.cal x hx).below hb)) (HK.out.below (HNB.out _ HBB0.out).1) HL.out.1 (by omega) (fun i _ => HNM.out.1 i) (HP0.out.net.cals) (fun _ _ => rfl) (fun _ _ => rfl)).mono ?_
    rintro e v0 ⟨B0, p0, d0, ys0, rfl, ho, h1, hm, hmb, hb⟩
    have HV0 := Lib.hid (HBB0.out.trans (hb.mono (Nat.le_trans HWL.out HBB0.out.size)))
    have HOA0 := Lib.hid (own_below HO0.out hb)
    have HOB0 := Lib.hid ho
    have H10 := Lib.hid h1
    have HM0 := Lib.hid hm
    clear ho h1 hm hb n0
    clear n1
    go_wp2_with (refine wpList_app (by rfl) (.tmp 21) (.tmp 25) 80 80 (by rfl) (X + 1) 138 i0 _ 3 24 Tryz.underlying80 hi0 hz0 hz1 hz2 (by rfl) _ (0) ([]) (by rfl) HOA0.out _ (by rfl) p0 ys0 (src_own Tryz.underlying80 HOB0.out H10.out) (by unfold maxLen; omega) (by omega) (Nat.le_trans HWL.out HV0.out.size) ?_; intro A1' c1' w1' ho hgr hbl; rw [Nat.zero_add] at ho; have HO1 := Lib.hid ho; have HBB1 := Lib.hid (app_below HV0.out HWL.out HOA0.out (Nat.le_refl _) hgr); clear ho hgr hbl; have n2 : w1'.cell? ⟨X, 2, none⟩ = some (.slice n.opA n.ops.length n.opC) := (HNB.out _ HBB1.out).2.box 2 _ rfl)
    have HI1 := Lib.hid (one_app HI0.out H10.out)
    have HQ1 := Lib.hid (and_zero0 HS.out HM0.out)
    clear HOA0 HOB0 HO0 HBB0 HI0 HP0 HV0
    have HP1 : Hid (NetP w1' X n) := (HNB.out _ HBB1.out).2
    go_wp2_with fail
    refine (check_op 2 6 106 108 #[.pointer (some ⟨X, 0, none⟩)] #[] (nmOp n) (fun _ => true) n.ops n.opA n.opC _ (fun i hi w' hb => opname_any X n i w' (HP1.out.below hb) hi) (fun x hx w' hb => opgood_any x w') (HK.out.below (HNB.out _ HBB1.out).1) HL.out.2.2.1 (by omega) (fun i _ => HNM.out.2.1 i) (by rw [encOp_map]; exact HP1.out.net.ops) (fun _ _ => rfl) (fun _ _ => rfl)).mono ?_
    rintro e v1 ⟨B1, p1, d1, ys1, rfl, ho, h1, hm, hmb, hb⟩
    have HV1 := Lib.hid (HBB1.out.trans (hb.mono (Nat.le_trans HWL.out HBB1.out.size)))
    have HOA1 := Lib.hid (own_below HO1.out hb)
    have HOB1 := Lib.hid ho
    have H11 := Lib.hid h1
    have HM1 := Lib.hid hm
    clear ho h1 hm hb n2
    go_wp2_with (refine wpList_app (by rfl) (.tmp 28) (.tmp 32) 80 80 (by rfl) (X + 1) 138 i0 _ 3 24 Tryz.underlying80 hi0 hz0 hz1 hz2 (by rfl) _ (p0) ([] ++ ys0) (by rfl) HOA1.out _ (by rfl) p1 ys1 (src_own Tryz.underlying80 HOB1.out H11.out) (by unfold maxLen; omega) (by omega) (Nat.le_trans HWL.out HV1.out.size) ?_; intro A2' c2' w2' ho hgr hbl; have HO2 := Lib.hid ho; have HBB2 := Lib.hid (app_below HV1.out HWL.out HOA1.out (Nat.le_refl _) hgr); clear ho hgr hbl; have n3 : w2'.cell? ⟨X, 3, none⟩ = some (.slice n.offA n.offs.length n.offC) := (HNB.out _ HBB2.out).2.box 3 _ rfl)
    have HI2 := Lib.hid (one_app HI1.out H11.out)
    have HQ2 := Lib.hid (and_zero HQ1.out HM1.out)
    clear HOA1 HOB1 HO1 HBB1 HI1 HP1 HV1
    have HP2 : Hid (NetP w2' X n) := (HNB.out _ HBB2.out).2
    go_wp2_with fail
    refine (check_off 3 12 109 111 #[.pointer (some ⟨X, 0, none⟩)] #[.pointer (some ⟨X, 0, none⟩)] (nmOff n) (officeB n) n.offs n.offA n.offC _ (fun i hi w' hb => offname_any X n i w' (HP2.out.below hb) hi) (fun x hx w' hb => offgood_any X n x w' (HP2.out.below hb) ((HP2.out.net.off x hx).below hb)) (HK.out.below (HNB.out _ HBB2.out).1) HL.out.2.2.2.1 (by omega) (fun i _ => HNM.out.2.2.1 i) (HP2.out.net.offs) (fun _ _ => rfl) (fun _ _ => rfl)).mono ?_
    rintro e v2 ⟨B2, p2, d2, ys2, rfl, ho, h1, hm, hmb, hb⟩
    have HV2 := Lib.hid (HBB2.out.trans (hb.mono (Nat.le_trans HWL.out HBB2.out.size)))
    have HOA2 := Lib.hid (own_below HO2.out hb)
    have HOB2 := Lib.hid ho
    have H12 := Lib.hid h1
    have HM2 := Lib.hid hm
    clear ho h1 hm hb n3
    go_wp2_with (refine wpList_app (by rfl) (.tmp 35) (.tmp 40) 80 80 (by rfl) (X + 1) 138 i0 _ 3 24 Tryz.underlying80 hi0 hz0 hz1 hz2 (by rfl) _ (p0 + p1) ([] ++ ys0 ++ ys1) (by rfl) HOA2.out _ (by rfl) p2 ys2 (src_own Tryz.underlying80 HOB2.out H12.out) (by unfold maxLen; omega) (by omega) (Nat.le_trans HWL.out HV2.out.size) ?_; intro A3' c3' w3' ho hgr hbl; have HO3 := Lib.hid ho; have HBB3 := Lib.hid (app_below HV2.out HWL.out HOA2.out (Nat.le_refl _) hgr); clear ho hgr hbl; have n4 : w3'.cell? ⟨X, 4, none⟩ = some (.slice n.linA n.lins.length n.linC) := (HNB.out _ HBB3.out).2.box 4 _ rfl)
    have HI3 := Lib.hid (one_app HI2.out H12.out)
    have HQ3 := Lib.hid (and_zero HQ2.out HM2.out)
    clear HOA2 HOB2 HO2 HBB2 HI2 HP2 HV2
    have HP3 : Hid (NetP w3' X n) := (HNB.out _ HBB3.out).2
    go_wp2_with fail
    refine (check_lin 4 40 113 115 #[.pointer (some ⟨X, 0, none⟩)] #[.pointer (some ⟨X, 0, none⟩)] (nmLin n) (lineB n) n.lins n.linA n.linC _ (fun i hi w' hb => linname_any X n i w' (HP3.out.below hb) hi) (fun x hx w' hb => lingood_any X n x w' (HP3.out.below hb)) (HK.out.below (HNB.out _ HBB3.out).1) HL.out.2.2.2.2.1 (by omega) (fun i _ => HNM.out.2.2.2.1 i) (HP3.out.net.lins) (fun _ _ => rfl) (fun _ _ => rfl)).mono ?_
    rintro e v3 ⟨B3, p3, d3, ys3, rfl, ho, h1, hm, hmb, hb⟩
    have HV3 := Lib.hid (HBB3.out.trans (hb.mono (Nat.le_trans HWL.out HBB3.out.size)))
    have HOA3 := Lib.hid (own_below HO3.out hb)
    have HOB3 := Lib.hid ho
    have H13 := Lib.hid h1
    have HM3 := Lib.hid hm
    clear ho h1 hm hb n4
    go_wp2_with (refine wpList_app (by rfl) (.tmp 43) (.tmp 48) 80 80 (by rfl) (X + 1) 138 i0 _ 3 24 Tryz.underlying80 hi0 hz0 hz1 hz2 (by rfl) _ (p0 + p1 + p2) ([] ++ ys0 ++ ys1 ++ ys2) (by rfl) HOA3.out _ (by rfl) p3 ys3 (src_own Tryz.underlying80 HOB3.out H13.out) (by unfold maxLen; omega) (by omega) (Nat.le_trans HWL.out HV3.out.size) ?_; intro A4' c4' w4' ho hgr hbl; have HO4 := Lib.hid ho; have HBB4 := Lib.hid (app_below HV3.out HWL.out HOA3.out (Nat.le_refl _) hgr); clear ho hgr hbl; have n5 : w4'.cell? ⟨X, 5, none⟩ = some (.slice n.clsA n.clss.length n.clsC) := (HNB.out _ HBB4.out).2.box 5 _ rfl)
    have HI4 := Lib.hid (one_app HI3.out H13.out)
    have HQ4 := Lib.hid (and_zero HQ3.out HM3.out)
    clear HOA3 HOB3 HO3 HBB3 HI3 HP3 HV3
    have HP4 : Hid (NetP w4' X n) := (HNB.out _ HBB4.out).2
    go_wp2_with fail
    refine (check_cls 5 4 117 119 #[.pointer (some ⟨X, 0, none⟩)] #[] (nmCls n) clsB n.clss n.clsA n.clsC _ (fun i hi w' hb => clsname_any X n i w' (HP4.out.below hb) hi) (fun x hx w' hb => clsgood_any x w') (HK.out.below (HNB.out _ HBB4.out).1) HL.out.2.2.2.2.2 (by omega) (fun i _ => HNM.out.2.2.2.2 i) (HP4.out.net.clss) (fun _ _ => rfl) (fun _ _ => rfl)).mono ?_
    rintro e v4 ⟨B4, p4, d4, ys4, rfl, ho, h1, hm, hmb, hb⟩
    have HV4 := Lib.hid (HBB4.out.trans (hb.mono (Nat.le_trans HWL.out HBB4.out.size)))
    have HOA4 := Lib.hid (own_below HO4.out hb)
    have HOB4 := Lib.hid ho
    have H14 := Lib.hid h1
    have HM4 := Lib.hid hm
    clear ho h1 hm hb n5
    go_wp2_with (refine wpList_app (by rfl) (.tmp 51) (.tmp 55) 80 80 (by rfl) (X + 1) 138 i0 _ 3 24 Tryz.underlying80 hi0 hz0 hz1 hz2 (by rfl) _ (p0 + p1 + p2 + p3) ([] ++ ys0 ++ ys1 ++ ys2 ++ ys3) (by rfl) HOA4.out _ (by rfl) p4 ys4 (src_own Tryz.underlying80 HOB4.out H14.out) (by unfold maxLen; omega) (by omega) (Nat.le_trans HWL.out HV4.out.size) ?_; intro A5' c5' w5' ho hgr hbl; have HO5 := Lib.hid ho; have HBB5 := Lib.hid (app_below HV4.out HWL.out HOA4.out (Nat.le_refl _) hgr); clear ho hgr hbl)
    have HI5 := Lib.hid (one_app HI4.out H14.out)
    have HQ5 := Lib.hid (and_zero HQ4.out HM4.out)
    clear HOA4 HOB4 HO4 HBB4 HI4 HP4 HV4
    go_ret
    exact ⟨_, _, _, _, rfl, own_base HO5.out (by have := HX.out; omega), HI5.out, HQ5.out.trans ⟨fun h => ⟨h.1.1.1.1.1, h.1.1.1.1.2, h.1.1.1.2, h.1.1.2, h.1.2, h.2⟩, fun h => ⟨⟨⟨⟨⟨h.same, h.cal⟩, h.op⟩, h.off⟩, h.lin⟩, h.cls⟩⟩, by omega, (HNB.out _ HBB5.out).1⟩
  · have s1 : ((n.names.length : Int) != (n.cals.length : Int)) = true := by simp; omega
    have s2 : ((n.names.length : Int) == (n.cals.length : Int)) = false := by simp; omega
    have HS := Lib.hid hsame; clear hsame
    go_enter Tryz.func75, Tryz.ntmps75
    go_upto_region 1 with fail
    change Code.wp _ _ _ _ (w.alloc (netO n))
    generalize (w.alloc (netO n)) = W at *
    generalize hX : w.heap.size = X at *
    have HX := Lib.hid hX; clear hX
    have HNB : Hid (∀ wr, Below (X + 1) W wr → Below w.heap.size w wr ∧ NetP wr X n) := fun wr hb => box_keep HNW.out HX.out HB0.out HNP.out.box hb
    have n0 : W.cell? ⟨X, 0, none⟩ = some (.slice n.calA n.cals.length n.calC) := HNP.out.box 0 _ rfl
    have n1 : W.cell? ⟨X, 1, none⟩ = some (.slice n.namA n.names.length n.namC) := HNP.out.box 1 _ rfl
    go_upto_region 4 with (refine wpList_app (by rfl) (.tmp 16) (.tmp 18) 80 80 (by rfl) (X + 1) 138 i0 _ 3 24 Tryz.underlying80 hi0 hz0 hz1 hz2 (by rfl) _ 0 [] (by rfl) (World.ownsRow_nil _ _ _ _) _ (by rfl) 1 [iV 1, iV (-1), iV 1] (src_k 3 Tryz.underlying80 (Rd.new _ [iV 1, iV (-1), iV 1] _) rfl (by simp [Value.oneCell'])) (by unfold maxLen; omega) (by omega) (by have := HWL.out; simp; omega) ?_; intro A0 c0 w0 ho hgr hbl; have HO0 := Lib.hid ho; have HBB0 := Lib.hid (app_below ((Below.refl (X + 1) W).alloc HWL.out _) HWL.out (World.ownsRow_nil _ (X + 1) 138 3) (Nat.le_refl _) hgr); clear ho hgr hbl)
    have HI0 : Hid (∀ x ∈ ([] ++ [iV 1, iV (-1), iV 1] : List Value), x.oneCell' = true) := by
      intro x hx
      simp at hx
      rcases hx with rfl | rfl | rfl <;> rfl
    have HQ0 : Hid (0 + 1 = 0 ↔ n.names.length = n.cals.length) := ⟨fun h => by omega, fun h => absurd h HS.out⟩
    have e0 : 0 + 1 ≤ 1 := by omega
    clear n0 n1
    have n0 : w0.cell? ⟨X, 0, none⟩ = some (.slice n.calA n.cals.length n.calC) := (HBB0.out.cell (p := ⟨X, 0, none⟩) (Nat.lt_succ_self _)).trans (HNP.out.box 0 _ rfl)
    have HP0 : Hid (NetP w0 X n) := (HNB.out _ HBB0.out).2
    go_wp2_with fail
    refine (check_cal 1 6 104 48 #[.pointer (some ⟨X, 0, none⟩)] #[] (nmCal n) calB n.cals n.calA n.calC _ (fun i hi w' hb => calname_any X n i w' (HP0.out.below hb)) (fun x hx w' hb => valid_any x w' ((HP0.out.net.cal x hx).below hb)) (HK.out.below (HNB.out _ HBB0.out).1) HL.out.1 (by omega) (fun i _ => HNM.out.1 i) (HP0.out.net.cals) (fun _ _ => rfl) (fun _ _ => rfl)).mono ?_
    rintro e v0 ⟨B0, p0, d0, ys0, rfl, ho, h1, hm, hmb, hb⟩
    have HV0 := Lib.hid (HBB0.out.trans (hb.mono (Nat.le_trans HWL.out HBB0.out.size)))
    have HOA0 := Lib.hid (own_below HO0.out hb)
    have HOB0 := Lib.hid ho
    have H10 := Lib.hid h1
    have HM0 := Lib.hid hm
    clear ho h1 hm hb n0
    go_wp2_with (refine wpList_app (by rfl) (.tmp 21) (.tmp 25) 80 80 (by rfl) (X + 1) 138 i0 _ 3 24 Tryz.underlying80 hi0 hz0 hz1 hz2 (by rfl) _ (0 + 1) ([] ++ [iV 1, iV (-1), iV 1]) (by rfl) HOA0.out _ (by rfl) p0 ys0 (src_own Tryz.underlying80 HOB0.out H10.out) (by unfold maxLen; omega) (by omega) (Nat.le_trans HWL.out HV0.out.size) ?_; intro A1' c1' w1' ho hgr hbl; have HO1 := Lib.hid ho; have HBB1 := Lib.hid (app_below HV0.out HWL.out HOA0.out (Nat.le_refl _) hgr); clear ho hgr hbl; have n2 : w1'.cell? ⟨X, 2, none⟩ = some (.slice n.opA n.ops.length n.opC) := (HNB.out _ HBB1.out).2.box 2 _ rfl)
    have HI1 := Lib.hid (one_app HI0.out H10.out)
    have HQ1 := Lib.hid (and_zero HQ0.out HM0.out)
    clear HOA0 HOB0 HO0 HBB0 HI0 HP0 HV0
    have HP1 : Hid (NetP w1' X n) := (HNB.out _ HBB1.out).2
    go_wp2_with fail
    refine (check_op 2 6 106 108 #[.pointer (some ⟨X, 0, none⟩)] #[] (nmOp n) (fun _ => true) n.ops n.opA n.opC _ (fun i hi w' hb => opname_any X n i w' (HP1.out.below hb) hi) (fun x hx w' hb => opgood_any x w') (HK.out.below (HNB.out _ HBB1.out).1) HL.out.2.2.1 (by omega) (fun i _ => HNM.out.2.1 i) (by rw [encOp_map]; exact HP1.out.net.ops) (fun _ _ => rfl) (fun _ _ => rfl)).mono ?_
    rintro e v1 ⟨B1, p1, d1, ys1, rfl, ho, h1, hm, hmb, hb⟩
    have HV1 := Lib.hid (HBB1.out.trans (hb.mono (Nat.le_trans HWL.out HBB1.out.size)))
    have HOA1 := Lib.hid (own_below HO1.out hb)
    have HOB1 := Lib.hid ho
    have H11 := Lib.hid h1
    have HM1 := Lib.hid hm
    clear ho h1 hm hb n2
    go_wp2_with (refine wpList_app (by rfl) (.tmp 28) (.tmp 32) 80 80 (by rfl) (X + 1) 138 i0 _ 3 24 Tryz.underlying80 hi0 hz0 hz1 hz2 (by rfl) _ (0 + 1 + p0) ([] ++ [iV 1, iV (-1), iV 1] ++ ys0) (by rfl) HOA1.out _ (by rfl) p1 ys1 (src_own Tryz.underlying80 HOB1.out H11.out) (by unfold maxLen; omega) (by omega) (Nat.le_trans HWL.out HV1.out.size) ?_; intro A2' c2' w2' ho hgr hbl; have HO2 := Lib.hid ho; have HBB2 := Lib.hid (app_below HV1.out HWL.out HOA1.out (Nat.le_refl _) hgr); clear ho hgr hbl; have n3 : w2'.cell? ⟨X, 3, none⟩ = some (.slice n.offA n.offs.length n.offC) := (HNB.out _ HBB2.out).2.box 3 _ rfl)
    have HI2 := Lib.hid (one_app HI1.out H11.out)
    have HQ2 := Lib.hid (and_zero HQ1.out HM1.out)
    clear HOA1 HOB1 HO1 HBB1 HI1 HP1 HV1
    have HP2 : Hid (NetP w2' X n) := (HNB.out _ HBB2.out).2
    go_wp2_with fail
    refine (check_off 3 12 109 111 #[.pointer (some ⟨X, 0, none⟩)] #[.pointer (some ⟨X, 0, none⟩)] (nmOff n) (officeB n) n.offs n.offA n.offC _ (fun i hi w' hb => offname_any X n i w' (HP2.out.below hb) hi) (fun x hx w' hb => offgood_any X n x w' (HP2.out.below hb) ((HP2.out.net.off x hx).below hb)) (HK.out.below (HNB.out _ HBB2.out).1) HL.out.2.2.2.1 (by omega) (fun i _ => HNM.out.2.2.1 i) (HP2.out.net.offs) (fun _ _ => rfl) (fun _ _ => rfl)).mono ?_
    rintro e v2 ⟨B2, p2, d2, ys2, rfl, ho, h1, hm, hmb, hb⟩
    have HV2 := Lib.hid (HBB2.out.trans (hb.mono (Nat.le_trans HWL.out HBB2.out.size)))
    have HOA2 := Lib.hid (own_below HO2.out hb)
    have HOB2 := Lib.hid ho
    have H12 := Lib.hid h1
    have HM2 := Lib.hid hm
    clear ho h1 hm hb n3
    go_wp2_with (refine wpList_app (by rfl) (.tmp 35) (.tmp 40) 80 80 (by rfl) (X + 1) 138 i0 _ 3 24 Tryz.underlying80 hi0 hz0 hz1 hz2 (by rfl) _ (0 + 1 + p0 + p1) ([] ++ [iV 1, iV (-1), iV 1] ++ ys0 ++ ys1) (by rfl) HOA2.out _ (by rfl) p2 ys2 (src_own Tryz.underlying80 HOB2.out H12.out) (by unfold maxLen; omega) (by omega) (Nat.le_trans HWL.out HV2.out.size) ?_; intro A3' c3' w3' ho hgr hbl; have HO3 := Lib.hid ho; have HBB3 := Lib.hid (app_below HV2.out HWL.out HOA2.out (Nat.le_refl _) hgr); clear ho hgr hbl; have n4 : w3'.cell? ⟨X, 4, none⟩ = some (.slice n.linA n.lins.length n.linC) := (HNB.out _ HBB3.out).2.box 4 _ rfl)
    have HI3 := Lib.hid (one_app HI2.out H12.out)
    have HQ3 := Lib.hid (and_zero HQ2.out HM2.out)
    clear HOA2 HOB2 HO2 HBB2 HI2 HP2 HV2
    have HP3 : Hid (NetP w3' X n) := (HNB.out _ HBB3.out).2
    go_wp2_with fail
    refine (check_lin 4 40 113 115 #[.pointer (some ⟨X, 0, none⟩)] #[.pointer (some ⟨X, 0, none⟩)] (nmLin n) (lineB n) n.lins n.linA n.linC _ (fun i hi w' hb => linname_any X n i w' (HP3.out.below hb) hi) (fun x hx w' hb => lingood_any X n x w' (HP3.out.below hb)) (HK.out.below (HNB.out _ HBB3.out).1) HL.out.2.2.2.2.1 (by omega) (fun i _ => HNM.out.2.2.2.1 i) (HP3.out.net.lins) (fun _ _ => rfl) (fun _ _ => rfl)).mono ?_
    rintro e v3 ⟨B3, p3, d3, ys3, rfl, ho, h1, hm, hmb, hb⟩
    have HV3 := Lib.hid (HBB3.out.trans (hb.mono (Nat.le_trans HWL.out HBB3.out.size)))
    have HOA3 := Lib.hid (own_below HO3.out hb)
    have HOB3 := Lib.hid ho
    have H13 := Lib.hid h1
    have HM3 := Lib.hid hm
    clear ho h1 hm hb n4
    go_wp2_with (refine wpList_app (by rfl) (.tmp 43) (.tmp 48) 80 80 (by rfl) (X + 1) 138 i0 _ 3 24 Tryz.underlying80 hi0 hz0 hz1 hz2 (by rfl) _ (0 + 1 + p0 + p1 + p2) ([] ++ [iV 1, iV (-1), iV 1] ++ ys0 ++ ys1 ++ ys2) (by rfl) HOA3.out _ (by rfl) p3 ys3 (src_own Tryz.underlying80 HOB3.out H13.out) (by unfold maxLen; omega) (by omega) (Nat.le_trans HWL.out HV3.out.size) ?_; intro A4' c4' w4' ho hgr hbl; have HO4 := Lib.hid ho; have HBB4 := Lib.hid (app_below HV3.out HWL.out HOA3.out (Nat.le_refl _) hgr); clear ho hgr hbl; have n5 : w4'.cell? ⟨X, 5, none⟩ = some (.slice n.clsA n.clss.length n.clsC) := (HNB.out _ HBB4.out).2.box 5 _ rfl)
    have HI4 := Lib.hid (one_app HI3.out H13.out)
    have HQ4 := Lib.hid (and_zero HQ3.out HM3.out)
    clear HOA3 HOB3 HO3 HBB3 HI3 HP3 HV3
    have HP4 : Hid (NetP w4' X n) := (HNB.out _ HBB4.out).2
    go_wp2_with fail
    refine (check_cls 5 4 117 119 #[.pointer (some ⟨X, 0, none⟩)] #[] (nmCls n) clsB n.clss n.clsA n.clsC _ (fun i hi w' hb => clsname_any X n i w' (HP4.out.below hb) hi) (fun x hx w' hb => clsgood_any x w') (HK.out.below (HNB.out _ HBB4.out).1) HL.out.2.2.2.2.2 (by omega) (fun i _ => HNM.out.2.2.2.2 i) (HP4.out.net.clss) (fun _ _ => rfl) (fun _ _ => rfl)).mono ?_
    rintro e v4 ⟨B4, p4, d4, ys4, rfl, ho, h1, hm, hmb, hb⟩
    have HV4 := Lib.hid (HBB4.out.trans (hb.mono (Nat.le_trans HWL.out HBB4.out.size)))
    have HOA4 := Lib.hid (own_below HO4.out hb)
    have HOB4 := Lib.hid ho
    have H14 := Lib.hid h1
    have HM4 := Lib.hid hm
    clear ho h1 hm hb n5
    go_wp2_with (refine wpList_app (by rfl) (.tmp 51) (.tmp 55) 80 80 (by rfl) (X + 1) 138 i0 _ 3 24 Tryz.underlying80 hi0 hz0 hz1 hz2 (by rfl) _ (0 + 1 + p0 + p1 + p2 + p3) ([] ++ [iV 1, iV (-1), iV 1] ++ ys0 ++ ys1 ++ ys2 ++ ys3) (by rfl) HOA4.out _ (by rfl) p4 ys4 (src_own Tryz.underlying80 HOB4.out H14.out) (by unfold maxLen; omega) (by omega) (Nat.le_trans HWL.out HV4.out.size) ?_; intro A5' c5' w5' ho hgr hbl; have HO5 := Lib.hid ho; have HBB5 := Lib.hid (app_below HV4.out HWL.out HOA4.out (Nat.le_refl _) hgr); clear ho hgr hbl)
    have HI5 := Lib.hid (one_app HI4.out H14.out)
    have HQ5 := Lib.hid (and_zero HQ4.out HM4.out)
    clear HOA4 HOB4 HO4 HBB4 HI4 HP4 HV4
    go_ret
    exact ⟨_, _, _, _, rfl, own_base HO5.out (by have := HX.out; omega), HI5.out, HQ5.out.trans ⟨fun h => ⟨h.1.1.1.1.1, h.1.1.1.1.2, h.1.1.1.2, h.1.1.2, h.1.2, h.2⟩, fun h => ⟨⟨⟨⟨⟨h.same, h.cal⟩, h.op⟩, h.off⟩, h.lin⟩, h.cls⟩⟩, by omega, (HNB.out _ HBB5.out).1⟩
end Go.Proofs.YtjpabeoflhkfkaaGreatDoor
namespace Go.Proofs.YtjpabeoflhkfkaaGreatDoor
open Go.RowKit

/-- A sound network. -/
def Sound (n : Net) : Prop := Cons n ∧ ∀ b < n.offs.length, ∀ a < n.offs.length, distM (edgesOf n) a b ≠ -1
theorem fromB_iff {v a b : Int} : fromB v a b = true ↔ a ≤ v ∧ v ≤ b := by unfold fromB; simp
theorem indexB_iff {i : Int} {k : Nat} : indexB i k = true ↔ 0 ≤ i ∧ i < (k : Int) := by unfold indexB; simp
theorem minuteB_iff {v : Int} : minuteB v = true ↔ 0 ≤ v ∧ v ≤ 1439 := by unfold minuteB; exact fromB_iff
theorem lineB_iff {n : Net} {l : Lin} : lineB n l = true ↔ (0 ≤ l.frm ∧ l.frm < (n.offs.length : Int)) ∧ (0 ≤ l.to ∧ l.to < (n.offs.length : Int)) ∧ l.frm ≠ l.to ∧ (0 ≤ l.at_ ∧ l.at_ ≤ 1439) ∧ (1 ≤ l.travel ∧ l.travel ≤ 5000) ∧ (1 ≤ l.load ∧ l.load ≤ 40) := by
  unfold lineB
  by_cases h : indexB l.frm n.offs.length = true ∧ indexB l.to n.offs.length = true ∧ l.frm ≠ l.to
  · rw [if_pos h, Bool.and_eq_true, Bool.and_eq_true, minuteB_iff, fromB_iff, fromB_iff]
    exact ⟨fun h2 => ⟨indexB_iff.1 h.1, indexB_iff.1 h.2.1, h.2.2, h2.1.1, h2.1.2, h2.2⟩, fun h2 => ⟨⟨h2.2.2.2.1, h2.2.2.2.2.1⟩, h2.2.2.2.2.2⟩⟩
  · rw [if_neg h]
    exact ⟨(fun h2 => by cases h2), fun h2 => absurd ⟨indexB_iff.2 h2.1, indexB_iff.2 h2.2.1, h2.2.2.1⟩ h⟩
theorem officeB_iff {n : Net} {o : Off} : officeB n o = true ↔ ((0 ≤ o.op ∧ o.op < (n.ops.length : Int)) ∧ (0 ≤ o.cal ∧ o.cal < (n.cals.length : Int)) ∧ o.codes.length ≤ 20 ∧ o.codes.all codeB = true) ∧ (2 ≤ o.pockets ∧ o.pockets ≤ 64) ∧ (1 ≤ o.passes ∧ o.passes ≤ 4) ∧ (1 ≤ o.minutes ∧ o.minutes ≤ 240) := by
  unfold officeB
  by_cases h : indexB o.op n.ops.length = true ∧ indexB o.cal n.cals.length = true ∧ o.codes.length ≤ 20 ∧ o.codes.all codeB = true
  · rw [if_pos h, Bool.and_eq_true, Bool.and_eq_true, fromB_iff, fromB_iff, fromB_iff]
    exact ⟨fun h2 => ⟨⟨indexB_iff.1 h.1, indexB_iff.1 h.2.1, h.2.2⟩, h2.1.1, h2.1.2, h2.2⟩, fun h2 => ⟨⟨h2.2.1, h2.2.2.1⟩, h2.2.2.2⟩⟩
  · rw [if_neg h]
    exact ⟨(fun h2 => by cases h2), fun h2 => absurd ⟨indexB_iff.2 h2.1.1, indexB_iff.2 h2.1.2.1, h2.1.2.2⟩ h⟩
theorem clsB_iff {k : Cls} : clsB k = true ↔ (0 ≤ k.cut ∧ k.cut ≤ 1439) ∧ 0 ≤ k.deliver ∧ k.deliver ≤ 1439 := by
  unfold clsB
  rw [Bool.and_eq_true, minuteB_iff, minuteB_iff]
theorem ok_mem {α : Type} {nm : Nat → List UInt8} {gd : α → Bool} {L : List α} (h : ∀ i < L.length, okAt nm gd L i) : ∀ x ∈ L, gd x = true := fun x hx => by
  obtain ⟨i, hi, rfl⟩ := List.mem_iff_getElem.1 hx
  exact (h i hi).2.2 _ (List.getElem?_eq_getElem hi)
theorem Cons.good {n : Net} (h : Cons n) : Good n := by
  refine ⟨ok_mem h.cal.2, fun o ho => ?_, fun l hl => ?_, fun k hk => ?_, ⟨h.cal.1, h.off.1, h.lin.1, h.cls.1⟩⟩
  · have := officeB_iff.1 (ok_mem h.off.2 o ho)
    exact ⟨this.1.2.1, this.2.2.1.1, this.2.2.1.2, this.2.2.2.1, this.2.2.2.2⟩
  · have := lineB_iff.1 (ok_mem h.lin.2 l hl)
    exact ⟨this.1, this.2.1, this.2.2.2.1.1, by have := this.2.2.2.1.2; omega, this.2.2.2.2.1.1, this.2.2.2.2.1.2⟩
  · have := clsB_iff.1 (ok_mem h.cls.2 k hk)
    exact ⟨this.1.1, by have := this.1.2; omega, this.2.1, by have := this.2.2; omega⟩
theorem Cons.lins {n : Net} (h : Cons n) : LinsIn n := fun l hl => by
  have h1 := h.good.lin l hl
  have h2 := h.off.1
  omega
theorem mat_one {cs : Array Value} {M : Mat} (h2 : cs.size = 144) (h3 : ∀ a b, a < 12 → b < 12 → cs[a * 12 + b]? = some (iV (M a b))) : cs.all (·.oneCell') = true := by
  rw [Array.all_eq_true]
  intro i hi
  have hq := Nat.div_add_mod i 12
  have hm := Nat.mod_lt i (show 12 > 0 by omega)
  have := h3 (i / 12) (i % 12) (by omega) hm
  rw [show i / 12 * 12 + i % 12 = i by omega, Array.getElem?_eq_getElem hi] at this
  rw [Option.some.inj this]
  rfl
theorem own_ne {v v' : Value} {X Y : Nat} (h : v'.ownBlock = v.ownBlock ∨ v'.ownBlock = some X) (hv : v.ownBlock ≠ some Y) (hX : Y ≠ X) : v'.ownBlock ≠ some Y := fun e => by
  rcases h with h | h
  · exact hv (h.symm.trans e)
  · rw [h] at e
    exact hX (Option.some.inj e).symm
theorem grown_row (w : World) (g : Nat) (cs : Array Value) : w.grownBy (w.setRow g cs) (some g) := ⟨rfl, rfl, rfl, by simp, fun k _ hk => setRow_other w g k _ (fun e => hk (by rw [e]))⟩
set_option maxHeartbeats 8000000 in
set_option maxRecDepth 100000 in
theorem scheck_any (n : Net) (w : World) (hn : NetIn w n) (hk : KW w) :
    Calls Tryz.prog 33 #[netV n] w (InconR w (Sound n)) := by
  obtain ⟨i0, hi0, hz0, hz1, hz2⟩ := info_parts ftInfo
  have hb0 := ba w (netO n)
  have hl := hn.lens.2.2.2.1
  unfold maxLen at hl
  have hx0 := heap_alloc_new w (netO n)
  have HNP : Hid (NetP (w.alloc (netO n)) w.heap.size n) := ⟨fun i v hv => (cell_of_row _ _ _ _ _ _ hx0).trans hv, hn.below hb0⟩
  have HK := Lib.hid hk
  have HNW := Lib.hid hn
  have HB0 := Lib.hid hb0
  have HWL : Hid (w.heap.size + 1 ≤ (w.alloc (netO n)).heap.size) := block_lt hx0
  clear hn hk hb0 hx0
  go_enter Tryz.func33, Tryz.ntmps33
  go_upto_region 1 with fail
  change Code.wp _ _ _ _ (w.alloc (netO n))
  generalize (w.alloc (netO n)) = W at *
  generalize hX : w.heap.size = X at *
  have HX := Lib.hid hX; clear hX
  have HNB : Hid (∀ wr, Below (X + 1) W wr → Below w.heap.size w wr ∧ NetP wr X n) := fun wr hb => box_keep HNW.out HX.out HB0.out HNP.out.box hb
  have n0 : W.cell? ⟨X, 0, none⟩ = some (.slice n.calA n.cals.length n.calC) := HNP.out.box 0 _ rfl
  have n1 : W.cell? ⟨X, 1, none⟩ = some (.slice n.namA n.names.length n.namC) := HNP.out.box 1 _ rfl
  have n2 : W.cell? ⟨X, 2, none⟩ = some (.slice n.opA n.ops.length n.opC) := HNP.out.box 2 _ rfl
  have n3 : W.cell? ⟨X, 3, none⟩ = some (.slice n.offA n.offs.length n.offC) := HNP.out.box 3 _ rfl
  have n4 : W.cell? ⟨X, 4, none⟩ = some (.slice n.linA n.lins.length n.linC) := HNP.out.box 4 _ rfl
  have n5 : W.cell? ⟨X, 5, none⟩ = some (.slice n.clsA n.clss.length n.clsC) := HNP.out.box 5 _ rfl
  go_wp2_with fail
  refine (incon_any n _ HNP.out.net (HK.out.below (HNB.out _ (Below.refl _ _)).1)).mono ?_
  rintro e w1 ⟨A, m, c, xs, rfl, ho, h1, hm, hmb, hb⟩
  have HO := Lib.hid (own_base ho HWL.out)
  have H1 := Lib.hid h1
  have HM := Lib.hid hm
  have HB1 := Lib.hid (hb.mono HWL.out)
  clear ho h1 hm hb n0 n1 n2 n3 n4 n5
  by_cases hc : Cons n
  case neg =>
    have hm0 : 0 < m := by
      rcases Nat.eq_zero_or_pos m with h | h
      · exact absurd (HM.out.1 h) hc
      · exact h
    have hm1 : (0 : Int) < (m : Int) := by omega
    have HC := Lib.hid hc; clear hc
    go_wp2
    go_ret
    exact ⟨A, m, c, xs, rfl, own_base HO.out (by have := HX.out; omega), H1.out, ⟨fun h => by omega, fun h => absurd h.1 HC.out⟩, by omega, (HNB.out _ HB1.out).1⟩
  case pos =>
    obtain rfl : m = 0 := HM.out.2 hc
    obtain rfl : xs = [] := List.eq_nil_of_length_eq_zero (by simpa using HO.out.1)
    have h12 := hc.off.1
    have HC := Lib.hid hc; clear hc
    have n0 : w1.cell? ⟨X, 0, none⟩ = some (.slice n.calA n.cals.length n.calC) := (HNB.out _ HB1.out).2.box 0 _ rfl
    have n1 : w1.cell? ⟨X, 1, none⟩ = some (.slice n.namA n.names.length n.namC) := (HNB.out _ HB1.out).2.box 1 _ rfl
    have n2 : w1.cell? ⟨X, 2, none⟩ = some (.slice n.opA n.ops.length n.opC) := (HNB.out _ HB1.out).2.box 2 _ rfl
    have n3 : w1.cell? ⟨X, 3, none⟩ = some (.slice n.offA n.offs.length n.offC) := (HNB.out _ HB1.out).2.box 3 _ rfl
    have n4 : w1.cell? ⟨X, 4, none⟩ = some (.slice n.linA n.lins.length n.linC) := (HNB.out _ HB1.out).2.box 4 _ rfl
    have n5 : w1.cell? ⟨X, 5, none⟩ = some (.slice n.clsA n.clss.length n.clsC) := (HNB.out _ HB1.out).2.box 5 _ rfl
    go_wp2_with fail
    refine (relaxed_any n _ (HNB.out _ HB1.out).2.net HC.out.lins).mono ?_
    rintro e w2 ⟨cs, rfl, hcs, hcd, hb⟩
    have HS := Lib.hid hcs
    have HD := Lib.hid hcd
    have HO2 := Lib.hid (own_below HO.out hb)
    have HB2 : Hid (Below (X + 1) W w2) := HB1.out.trans (hb.mono (Nat.le_trans HWL.out HB1.out.size))
    have hv0 : ∀ Y, w2.heap.size ≤ Y → (Value.slice A 0 c).ownBlock ≠ some Y := fun Y hY h => by
      have := (HO2.out.lt Y h).2
      omega
    have HV0 := Lib.hid hv0
    clear hcs hcd hb HO HB1 n0 n1 n2 n3 n4 n5 hv0
    have hone := mat_one HS.out HD.out
    have HONE := Lib.hid hone; clear hone
    have HSZ : Hid ((Tryz.zeroCells135).size = cs.size) := by show _ = _; rw [zc_eq, HS.out]; simp
    have HSI : Hid ((Tryz.prog.info? 135).map (·.size) = some cs.size) := by show _ = _; rw [HS.out]; exact mat_size
    have hnew := heap_alloc_new w2 (.cells Tryz.zeroCells135 135)
    have HNEW := Lib.hid hnew
    have hrow := setRow_heap (w2.alloc (.cells Tryz.zeroCells135 135)) w2.heap.size _ cs _ (0, 0) hnew
    have HBL : Hid (Blk ((w2.alloc (.cells Tryz.zeroCells135 135)).setRow w2.heap.size cs) w2.heap.size (distM (edgesOf n))) := ⟨cs, hrow, HS.out, HD.out⟩
    have HO3 : Hid (((w2.alloc (.cells Tryz.zeroCells135 135)).setRow w2.heap.size cs).ownsRow (X + 1) 138 3 (.slice A 0 c) 0 []) := (HO2.out.alloc _).kept (grown_row _ _ _) (.inr (HV0.out _ (Nat.le_refl _)))
    have HB3 : Hid (Below (X + 1) W ((w2.alloc (.cells Tryz.zeroCells135 135)).setRow w2.heap.size cs)) := below_grown (HB2.out.alloc (Nat.le_trans HWL.out HB2.out.size) _) (grown_row _ w2.heap.size cs) (Nat.le_trans HWL.out HB2.out.size) (Nat.le_trans HWL.out (Nat.le_trans HB2.out.size (by simp)))
    have HV3 := Lib.hid (HV0.out _ (Nat.le_refl _))
    have HXY : Hid (X + 1 ≤ w2.heap.size) := Nat.le_trans HWL.out HB2.out.size
    have n3 : ((w2.alloc (.cells Tryz.zeroCells135 135)).setRow w2.heap.size cs).cell? ⟨X, 3, none⟩ = some (.slice n.offA n.offs.length n.offC) := (HNB.out _ HB3.out).2.box 3 _ rfl
    clear hnew hrow HO2 HB2 HV0 HS HD
    go_wp2_with (refine wpList_store_row (by rfl) 135 (.tmp 4) (.tmp 14) (by rfl) w2.heap.size cs (by rfl) (by rfl) 135 _ HNEW.out HSI.out HSZ.out HONE.out ?_)
    change Code.wp _ _ _ _ ((w2.alloc (.cells Tryz.zeroCells135 135)).setRow w2.heap.size cs)
    generalize ((w2.alloc (.cells Tryz.zeroCells135 135)).setRow w2.heap.size cs) = W3 at *
    generalize w2.heap.size = Y at *
    clear n3
    go_loopw [18, 3] (fun i v wr => ∃ (k m : Nat) (xs : List Value), k ≤ n.offs.length ∧ m ≤ k ∧ i = iV k ∧ Hid (wr.ownsRow (X + 1) 138 3 v m xs) ∧ Hid (∀ x ∈ xs, x.oneCell' = true) ∧ Hid (v.ownBlock ≠ some Y) ∧ Hid (Blk wr Y (distM (edgesOf n))) ∧ Hid (Below (X + 1) W wr) ∧ Hid (m = 0 ↔ ∀ b < k, ∀ a < n.offs.length, distM (edgesOf n) a b ≠ -1)) (fun i _ _ => 13 - (intOf i).toNat)
    case atStart => exact ⟨0, 0, [], by omega, by omega, rfl, HO3.out, (fun x hx => by cases hx), HV3.out, HBL.out, HB3.out, ⟨fun _ b hb => by omega, fun _ => rfl⟩⟩
    case round =>
      clear HO3 HBL HB3 HV3 H1
      obtain ⟨k, m, xs, hk, hmk, rfl, HO, H1, HV, HBL, HB, HQ⟩ := hrel
      obtain ⟨A2, c2, rfl⟩ := own_form HO.out
      have k0 : (0 : Int) ≤ (k : Int) := by omega
      by_cases hlt : k < n.offs.length
      · have k1 : (k : Int) < (n.offs.length : Int) := by omega
        have k2 : (k : Int) < 12 := by omega
        have n3 : wr.cell? ⟨X, 3, none⟩ = some (.slice n.offA n.offs.length n.offC) := (HNB.out _ HB.out).2.box 3 _ rfl
        go_wp2
        clear n3
        go_loop [24, 3] (fun i v => ∃ a : Nat, a ≤ n.offs.length ∧ i = iV a ∧ v = .slice A2 m c2 ∧ Hid (∀ j < a, distM (edgesOf n) j k ≠ -1)) (fun i _ => 13 - (intOf i).toNat)
        case atStart => exact ⟨0, by omega, rfl, rfl, fun j hj => by omega⟩
        case round =>
          obtain ⟨a, ha, rfl, rfl, HJ⟩ := hrel
          have a0 : (0 : Int) ≤ (a : Int) := by omega
          by_cases hat : a < n.offs.length
          · have a1 : (a : Int) < (n.offs.length : Int) := by omega
            have a2 : (a : Int) < 12 := by omega
            obtain ⟨d1, -⟩ := HBL.out.cell (show a < 12 by omega) (show k < 12 by omega)
            by_cases hd : distM (edgesOf n) a k = -1
            · have g1 : (distM (edgesOf n) a k == -1) = true := by simpa using hd
              have HBAD : Hid (m + 1 = 0 ↔ ∀ b < k + 1, ∀ a < n.offs.length, distM (edgesOf n) a b ≠ -1) := ⟨fun h => by omega, fun h => absurd hd (h k (by omega) a hat)⟩
              clear hd
              go_wp2_with (refine wpList_app (by rfl) (.tmp 33) (.tmp 36) 80 80 (by rfl) (X + 1) 138 i0 _ 3 24 Tryz.underlying80 hi0 hz0 hz1 hz2 (by rfl) _ m xs (by rfl) (HO.out.alloc (.cells #[iV 3, iV k, iV 111] 138)) _ (by rfl) 1 [iV 3, iV k, iV 111] (src_k 3 Tryz.underlying80 (Rd.new _ [iV 3, iV k, iV 111] _) rfl (by simp [Value.oneCell'])) (by unfold maxLen; omega) (by omega) (by have := HWL.out; have := HB.out.size; simp; omega) ?_; intro A4 c4 w4 ho hgr hbl; have HO4 := Lib.hid ho; have HB4 := Lib.hid (app_below (HB.out.alloc (Nat.le_trans HWL.out HB.out.size) _) HWL.out (HO.out.alloc _) (Nat.le_refl _) hgr); have HBL4 : Hid (Blk w4 Y (distM (edgesOf n))) := (HBL.out.below (ba _ _)).kept (hgr.block Y (HBL.out.below (ba _ _)).lt (fun e => HV.out e.symm)); have HV4 := Lib.hid (own_ne hbl HV.out (by have := HBL.out.lt; simp; omega)); clear ho hgr hbl)
              go_roundw
              case rel => exact ⟨k + 1, m + 1, xs ++ [iV 3, iV k, iV 111], by omega, by omega, by go_num, HO4.out, one3 H1.out, HV4.out, HBL4.out, HB4.out, HBAD.out⟩
              case measure => simp [intOf]; omega
            · have g1 : (distM (edgesOf n) a k == -1) = false := by simpa using hd
              have HJ2 : Hid (∀ j < a + 1, distM (edgesOf n) j k ≠ -1) := fun j hj => by
                rcases Nat.lt_or_ge j a with h | h
                · exact HJ.out j h
                · obtain rfl : j = a := by omega
                  exact hd
              clear hd
              go_wp2
              go_round
              case rel => exact ⟨a + 1, by omega, by go_num, rfl, HJ2.out⟩
              case measure => simp [intOf]; omega
          · have a1 : ¬ (a : Int) < (n.offs.length : Int) := by omega
            have HG : Hid (m = 0 ↔ ∀ b < k + 1, ∀ a < n.offs.length, distM (edgesOf n) a b ≠ -1) := HQ.out.trans ⟨fun h b hb j hj => by
              rcases Nat.lt_or_ge b k with h1 | h1
              · exact h b h1 j hj
              · obtain rfl : b = k := by omega
                exact HJ.out j (by omega), fun h b hb => h b (by omega)⟩
            go_wp2
            go_roundw
            case rel => exact ⟨k + 1, m, xs, by omega, by omega, by go_num, HO.out, H1.out, HV.out, HBL.out, HB.out, HG.out⟩
            case measure => simp [intOf]; omega
      · have k1 : ¬ (k : Int) < (n.offs.length : Int) := by omega
        go_wp2
        go_ret
        exact ⟨A2, m, c2, xs, rfl, own_base HO.out (by have := HX.out; omega), H1.out, HQ.out.trans ⟨fun h => ⟨HC.out, fun b hb => h b (by omega)⟩, fun h b hb => h.2 b (by omega)⟩, by omega, (HNB.out _ HB.out).1⟩
set_option maxHeartbeats 2000000 in
set_option maxRecDepth 100000 in
theorem sound_yes (N : Nat) (n : Net) (w : World) (hn : NetP w N n) (hk : KW w) (hs : Sound n) :
    Calls Tryz.prog 45 #[.pointer (some ⟨N, 0, none⟩)] w fun e w' => e = .returned (.bool true) ∧ Below w.heap.size w w' := by
  have n0 : w.cell? ⟨N, 0, none⟩ = some (.slice n.calA n.cals.length n.calC) := hn.box 0 _ rfl
  have n1 : w.cell? ⟨N, 1, none⟩ = some (.slice n.namA n.names.length n.namC) := hn.box 1 _ rfl
  have n2 : w.cell? ⟨N, 2, none⟩ = some (.slice n.opA n.ops.length n.opC) := hn.box 2 _ rfl
  have n3 : w.cell? ⟨N, 3, none⟩ = some (.slice n.offA n.offs.length n.offC) := hn.box 3 _ rfl
  have n4 : w.cell? ⟨N, 4, none⟩ = some (.slice n.linA n.lins.length n.linC) := hn.box 4 _ rfl
  have n5 : w.cell? ⟨N, 5, none⟩ = some (.slice n.clsA n.clss.length n.clsC) := hn.box 5 _ rfl
  have HN := Lib.hid hn; clear hn
  have HK := Lib.hid hk; clear hk
  have HS := Lib.hid hs; clear hs
  go_enter Tryz.func45, Tryz.ntmps45
  go_wp2_with fail
  refine (scheck_any n _ HN.out.net HK.out).mono ?_
  rintro e w1 ⟨A, m, c, xs, rfl, -, -, hm, -, hb⟩
  obtain rfl : m = 0 := hm.2 HS.out
  have HB := Lib.hid hb; clear hb hm n0 n1 n2 n3 n4 n5
  go_wp2
  go_ret
  exact ⟨rfl, HB.out⟩
end Go.Proofs.YtjpabeoflhkfkaaGreatDoor
namespace Go.Proofs.YtjpabeoflhkfkaaGreatDoor
open Go.RowKit

theorem row_set {w : World} {B : Nat} {cs : Array Value} {t : TypeId} {fr : Nat × Nat} (h : w.heap[B]? = some (.cells cs t fr)) (j : Nat) (v : Value) : (w.setCell ⟨B, j, none⟩ v).heap[B]? = some (.cells (cs.setIfInBounds j v) t fr) := by
  have hlt := block_lt h
  have hh : w.heap[B] = .cells cs t fr := (Array.getElem?_eq_some_iff.1 h).2
  simp only [World.setCell]
  rw [Array.getElem?_eq_getElem (by rw [Array.size_modify]; exact hlt), Array.getElem_modify_self, hh]
  rfl
theorem row_other {w : World} {B C : Nat} {o : Obj} (h : w.heap[B]? = some o) (hne : B ≠ C) (j : Nat) (v : Value) : (w.setCell ⟨C, j, none⟩ v).heap[B]? = some o := (Below.heap_setCell _ _ _ _ hne).trans h
/-- The world behind Way's two results. -/
def Wd2 (w W : World) (s y : Value) : Prop :=
  Below w.heap.size w W ∧ W.heap[w.heap.size + 1]? = some (.cells #[s] 49 (0, 0)) ∧ W.heap[w.heap.size + 1 + 1]? = some (.cells #[y] 44 (0, 0))
theorem Wd2.new (w : World) (n : Net) : Wd2 w (((w.alloc (netO n)).alloc (.cells #[.slice none 0 0] 49)).alloc (.cells #[iV 0] 44)) (.slice none 0 0) (iV 0) := by
  refine ⟨(((Below.refl _ w).alloc (Nat.le_refl _) _).alloc (by simp) _).alloc (by simp; omega) _, ?_, ?_⟩
  · refine (Below.heap_alloc _ _ _ (by simp)).trans ?_
    have := heap_alloc_new (w.alloc (netO n)) (.cells #[.slice none 0 0] 49)
    rwa [World.size_alloc] at this
  · have := heap_alloc_new ((w.alloc (netO n)).alloc (.cells #[.slice none 0 0] 49)) (.cells #[iV 0] 44)
    rwa [World.size_alloc, World.size_alloc] at this
theorem Wd2.below {w W W' : World} {s y : Value} (h : Wd2 w W s y) (hb : Below W.heap.size W W') : Wd2 w W' s y :=
  ⟨bt h.1 hb, (hb.block _ (block_lt h.2.1)).trans h.2.1, (hb.block _ (block_lt h.2.2)).trans h.2.2⟩
theorem Wd2.res {w W : World} {s y : Value} (h : Wd2 w W s y) (tmps : Array Value) (h2 : tmps.getD 10 undef = .pointer (some ⟨w.heap.size + 1, 0, none⟩)) (h3 : tmps.getD 11 undef = .pointer (some ⟨w.heap.size + 1 + 1, 0, none⟩)) :
    (results Tryz.f15 tmps).run Tryz.prog W = .ok (.tuple #[s, y]) W := by
  have e1 : (loadVar 49 ⟨w.heap.size + 1, 0, none⟩).run Tryz.prog W = .ok s W := by
    have := cell_of_row W _ 0 _ _ _ h.2.1
    simp [loadVar, go_sem, this]
  have e2 : (loadVar 44 ⟨w.heap.size + 1 + 1, 0, none⟩).run Tryz.prog W = .ok y W := by
    have := cell_of_row W _ 0 _ _ _ h.2.2
    simp [loadVar, go_sem, this]
  have h2' : tmps[10]?.getD undef = .pointer (some ⟨w.heap.size + 1, 0, none⟩) := by simpa using h2
  have h3' : tmps[11]?.getD undef = .pointer (some ⟨w.heap.size + 1 + 1, 0, none⟩) := by simpa using h3
  simp [results, Tryz.results15, asAddr, h2', h3', e1, e2]
def WayRes (w : World) (r : Int × List St) (e : Ending) (w' : World) : Prop :=
  Below w.heap.size w w' ∧ ∃ A c, e = .returned (.tuple #[.slice A r.2.length c, iV r.1]) ∧ Rd w' A (r.2.flatMap encSt)
theorem WayRes.bad {w W : World} (x : Int) {s y : Value} (h : Wd2 w W s y) : WayRes w (x, []) (.returned (.tuple #[.slice none 0 0, iV x])) W := ⟨h.1, none, 0, rfl, Rd.nil _ _⟩
theorem rd_own {w : World} {base : Nat} {e : TypeId} {size : Nat} {A : Option Addr} {n c : Nat} {xs : List Value} (h : w.ownsRow base e size (.slice A n c) n xs) : Rd w A xs := by
  have hl := h.1
  rcases h.2 with ⟨hv, h0⟩ | ⟨g, cap, cur, hv, hb, hg, hc, hm, hs, ht⟩
  · cases hv
    exact .inl (List.eq_nil_of_length_eq_zero (by simpa using hl))
  · cases hv
    refine .inr ⟨g, 0, rfl, block_lt hg, fun i u hu => ?_⟩
    have := h.cells (g := g) rfl i u hu
    rwa [show (⟨g, 0, none⟩ : Addr).add i = ⟨g, 0 + i, none⟩ by rw [add_at]] at this
/-- What Way asks of its numbers. -/
def inB (i : Int) (m : Nat) : Bool := decide (0 ≤ i) && decide (i < (m : Int))
theorem inB_iff {i : Int} {m : Nat} : inB i m = true ↔ 0 ≤ i ∧ i < (m : Int) := by unfold inB; simp
theorem inside_b (i : Int) (m : Nat) (w : World) : Calls Tryz.prog 43 #[iV i, iV m] w fun e w' => e = .returned (.bool (inB i m)) ∧ w = w' := inside_any i m w
end Go.Proofs.YtjpabeoflhkfkaaGreatDoor
namespace Go.Proofs.YtjpabeoflhkfkaaGreatDoor
open Go.RowKit

theorem formed_at {n : Net} {nx : List NsC} (h : Formed n nx) {o d : Nat} (ho : o < n.offs.length) (hd : d < n.offs.length) : nxAt nx o d = -1 ∨ 0 ≤ nxAt nx o d ∧ nxAt nx o d < n.lins.length ∧ (linAt n (nxAt nx o d).toNat).frm = o := by
  obtain ⟨r, hr, hrl, hrf⟩ := h.2 o ho
  have hdl : d < r.ns.length := by rw [hrl]; exact hd
  have hl : r.ns[d] = nxAt nx o d := by unfold nxAt; simp [List.getD, hr, hdl]
  have := hrf _ (List.getElem_mem hdl)
  rwa [hl] at this
theorem departR_in {c : Cal} {L : Lin} {t x : Int} (h1 : 0 ≤ L.at_) (h2 : L.at_ < 1440) (h : departR c L t = (x, 0)) : t ≤ x ∧ x ≤ t + 90000 ∧ 0 ≤ t ∧ t ≤ 2000000 := by
  unfold departR at h
  by_cases hok : tOk t = true
  · rw [if_pos hok] at h
    have h3 := firstR_in h1 h2 h
    unfold tOk at hok
    simp only [Bool.and_eq_true, decide_eq_true_eq] at hok
    omega
  · rw [if_neg hok] at h
    have := (Prod.mk.inj h).2
    omega
theorem wayR_end {n : Net} {nx : List NsC} {d : Nat} (hG : Good n) (hF : Formed n nx) (hd : d < n.offs.length) : ∀ (f o : Nat) (t : Int), o < n.offs.length → 0 ≤ t → t ≤ 3000000 → (wayR n nx d f o t).1 = 0 →
    ∃ l s, (wayR n nx d f o t).2 = l ++ [s] ∧ 0 ≤ s.arrive ∧ s.arrive ≤ 3000000 ∧ s.office = (d : Int) ∧ s.depart = -1 ∧ s.line = -1
  | 0, o, t, ho, h1, h2, h => by
    by_cases hod : o = d
    · subst hod
      rw [wayR_at]
      exact ⟨[], _, rfl, h1, h2, rfl, rfl, rfl⟩
    · unfold wayR at h
      rw [if_neg hod] at h
      split at h
      · cases h
      · dsimp only at h; split at h
        · cases h
        · rename_i h3; exact absurd h h3
  | f + 1, o, t, ho, h1, h2, h => by
    by_cases hod : o = d
    · subst hod
      rw [wayR_at]
      exact ⟨[], _, rfl, h1, h2, rfl, rfl, rfl⟩
    · by_cases hl : nxAt nx o d = -1
      · rw [wayR_no n nx d _ o t hod hl] at h; cases h
      · obtain ⟨g1, g2, g3⟩ := (formed_at hF ho hd).resolve_left hl
        obtain ⟨li, hli⟩ : ∃ li : Nat, (nxAt nx o d).toNat = li := ⟨_, rfl⟩
        have hlil : li < n.lins.length := by omega
        obtain ⟨-, ⟨q1, q2⟩, a1, a2, v1, v2⟩ := hG.lin _ (List.mem_of_getElem? (linAt_get hlil))
        by_cases he : (departR (calAt n o) (linAt n (nxAt nx o d).toNat) (readyR (offAt n o) t)).2 = 0
        · have e1 : departR (calAt n o) (linAt n li) (readyR (offAt n o) t) = ((departR (calAt n o) (linAt n li) (readyR (offAt n o) t)).1, 0) := by rw [← hli, ← he]
          have hb := departR_in a1 a2 e1
          unfold wayR at h ⊢
          rw [if_neg hod, if_neg hl] at h ⊢
          dsimp only at h ⊢
          rw [if_pos he] at h ⊢
          rw [hli] at h ⊢
          generalize (departR (calAt n o) (linAt n li) (readyR (offAt n o) t)).1 = x at *
          have ih := wayR_end hG hF hd f (linAt n li).to.toNat (x + (linAt n li).travel) (by omega) (by omega) (by omega)
          generalize wayR n nx d f (linAt n li).to.toNat (x + (linAt n li).travel) = r at *
          by_cases hr : r.1 = 0
          · obtain ⟨l, s, i1, i2⟩ := ih hr
            rw [if_pos hr]
            exact ⟨⟨o, t, x, nxAt nx o d⟩ :: l, s, by rw [i1]; rfl, i2⟩
          · rw [if_neg hr] at h
            exact absurd h hr
        · rw [wayR_bad n nx d _ o t hod hl he] at h
          exact absurd h he
theorem wayR_len (n : Net) (nx : List NsC) (d : Nat) : ∀ (f o : Nat) (t : Int), (wayR n nx d f o t).2.length ≤ f + 1
  | 0, o, t => by
    unfold wayR
    split
    · simp
    · split
      · simp
      · dsimp only; split <;> simp
  | f + 1, o, t => by
    unfold wayR
    split
    · simp
    · split
      · simp
      · dsimp only
        split
        · split
          · have := wayR_len n nx d f (linAt n (nxAt nx o d).toNat).to.toNat ((departR (calAt n o) (linAt n (nxAt nx o d).toNat) (readyR (offAt n o) t)).1 + (linAt n (nxAt nx o d).toNat).travel)
            simp only [List.length_cons]; omega
          · simp
        · simp
/-- The days that a cut-off needs. -/
def lastSt (l : List St) : St := l.getLastD ⟨0, 0, 0, 0⟩
def needR (n : Net) (nx : List NsC) (k o d : Nat) (cut : Int) : Option Int :=
  if (wayR n nx d 19 o cut).1 ≠ 0 then none else
  if (deliveryR (calAt n d) (offAt n d) (clsAt n k) (lastSt (wayR n nx d 19 o cut).2).arrive).2 ≠ 0 then none else
  let x := countR (calAt n d) (dayOf (calAt n d) cut) (dayOf (calAt n d) (deliveryR (calAt n d) (offAt n d) (clsAt n k) (lastSt (wayR n nx d 19 o cut).2).arrive).1)
  if x < 0 then none else some x
def NeedR (w : World) (r : Option Int) (e : Ending) (w' : World) : Prop :=
  Below w.heap.size w w' ∧ ((∃ x, r = some x ∧ e = .returned (iV x)) ∨ (r = none ∧ ∃ y, e = FailE y))
theorem last_app (l : List St) (s : St) : lastSt (l ++ [s]) = s := by simp [lastSt, List.getLastD_eq_getLast?]
set_option maxHeartbeats 8000000 in
set_option maxRecDepth 100000 in
theorem days_any (N : Nat) (n : Net) (A : Option Addr) (c : Nat) (nx : List NsC) (k o d : Nat) (t : Int) (w : World) (hN : NetP w N n) (hT : Tab w A nx) (hG : Good n) (hF : Formed n nx) (hk : k < n.clss.length) (ho : o < n.offs.length) (hd : d < n.offs.length) (ht1 : 0 ≤ t) (ht2 : t ≤ 3000000) :
    Calls Tryz.prog 97 #[.pointer (some ⟨N, 0, none⟩), .slice A nx.length c, iV k, iV o, iV d, iV t] w (NeedR w (needR n nx k o d t)) := by
  have HN := Lib.hid hN; clear hN
  have HT := Lib.hid hT; clear hT
  have HG := Lib.hid hG; clear hG
  have HF := Lib.hid hF; clear hF
  have HE := Lib.hid (wayR_end HG.out HF.out hd 19 o t ho ht1 ht2)
  obtain ⟨ci, hci⟩ := HG.out.calAt hd
  have HCI := Lib.hid hci; clear hci
  obtain ⟨-, hp⟩ := HG.out.off _ (List.mem_of_getElem? (offAt_get hd))
  have HP := Lib.hid hp; clear hp
  have HC := Lib.hid (HG.out.cls _ (List.mem_of_getElem? (clsAt_get hk)))
  have HNR : Hid (needR n nx k o d t = needR n nx k o d t) := rfl
  go_enter Tryz.func97, Tryz.ntmps97
  go_wp2_with fail
  refine (walk_any N n A c nx o d t _ HN.out HT.out HG.out HF.out ho hd ht1 ht2).mono ?_
  rintro e w1 ⟨hb, hr⟩
  have HB1 := Lib.hid hb
  have HN1 := Lib.hid (HN.out.below hb)
  clear hb HN HT
  rcases hr with ⟨h0, A1, c1, rfl, ho1⟩ | ⟨hne, rfl⟩
  case inr =>
    have HR : Hid (needR n nx k o d t = none) := by show _ = _; unfold needR; rw [if_pos hne]
    refine ⟨rfl, HB1.out, .inr ⟨HR.out, _, rfl⟩⟩
  case inl =>
    obtain ⟨l, s, hls, hs1, hs2, -, -, -⟩ := HE.out h0
    have HLS := Lib.hid hls
    have hlen : (wayR n nx d 19 o t).2.length = l.length + 1 := by rw [hls]; simp
    rw [hlen] at ho1 ⊢
    rw [hls] at ho1
    have hz : l.length + 1 ≤ 20 := by have := wayR_len n nx d 19 o t; omega
    obtain ⟨g, rfl, hg1, hg2, hfz, hcell⟩ := own_blk ho1 (by omega)
    have a1 : w1.cell? ⟨g, l.length * 4 + 1, none⟩ = some (iV s.arrive) := by
      have h1 := flat_get encSt 4 encSt_len (l ++ [s]) l.length 1 (by simp) (by omega)
      refine hcell _ _ (h1.trans ?_)
      have : (l ++ [s])[l.length]'(by simp) = s := by simp
      rw [this]
      rfl
    clear hcell hfz ho1 hls hlen
    go_wp2_with fail
    have hrd := mul_small HP.out.1 HP.out.2.1 HP.out.2.2.1 HP.out.2.2.2
    refine (delivery_any N n k d ci _ _ _ s.arrive _ HN1.out (clsAt_get hk) (offAt_get hd) HCI.out.1 HCI.out.2.1 HCI.out.2.2 HC.out.2.2.1 HC.out.2.2.2 HP.out.1 HP.out.2.1 HP.out.2.2.1 HP.out.2.2.2 (by omega) (by omega)).mono ?_
    rintro e w2 ⟨rfl, hb⟩
    have HB2 := Lib.hid (bt HB1.out hb)
    have HN2 := Lib.hid (HN1.out.below hb)
    have HLAST : Hid ((lastSt (wayR n nx d 19 o t).2).arrive = s.arrive) := by show _ = _; rw [HLS.out, last_app]
    have HH0 := Lib.hid h0
    clear hb HB1 HN1 a1 h0
    obtain ⟨D1, D2, hD⟩ : ∃ D1 D2, deliveryR (calAt n d) (offAt n d) (clsAt n k) s.arrive = (D1, D2) := ⟨_, _, rfl⟩
    rw [hD]
    have HD := Lib.hid hD; clear hD
    by_cases hD2 : D2 = 0
    case neg =>
      have HR : Hid (needR n nx k o d t = none) := by
        show _ = _
        unfold needR
        rw [if_neg (by rw [HH0.out]; simp), HLAST.out, HD.out, if_pos hD2]
      go_wp2_with fail
      refine (must_no D1 D2 _ hD2).mono ?_
      rintro e w3 ⟨rfl, rfl⟩
      go_wp2_with fail
      exact ⟨rfl, HB2.out, .inr ⟨HR.out, _, rfl⟩⟩
    case pos =>
      subst hD2
      have hin : readyR (offAt n d) s.arrive ≤ D1 ∧ D1 ≤ readyR (offAt n d) s.arrive + 90000 := firstR_in HC.out.2.2.1 HC.out.2.2.2 HD.out
      have hD1 : 0 ≤ D1 ∧ D1 ≤ 3100000 := by unfold readyR at hin; omega
      obtain ⟨hd1, hd2⟩ := hD1
      have hzz := calB_zone HCI.out.2.2
      obtain ⟨z1, z2, -⟩ := hzz
      have hda : dayR (dayOf (calAt n d) t) = true := by unfold dayR dayOf; simp; omega
      have hdb : dayR (dayOf (calAt n d) D1) = true := by unfold dayR dayOf; simp; omega
      have HDA := Lib.hid hda; clear hda
      have HDB := Lib.hid hdb; clear hdb
      clear hin hrd
      go_wp2_with fail
      refine (must_yes D1 _).mono ?_
      rintro e w3 ⟨rfl, rfl⟩
      go_wp2_with fail
      refine (calof_any N n d ci _ _ _ HN2.out (offAt_get hd) HCI.out.1 HCI.out.2.1).mono ?_
      rintro e w4 ⟨rfl, hb⟩
      have HB4 := Lib.hid (bt HB2.out hb)
      have HN4 := Lib.hid (HN2.out.below hb)
      clear hb HB2 HN2
      have HCC := Lib.hid (HN4.out.net.cal _ (List.mem_of_getElem? HCI.out.2.1))
      generalize hcal : calAt n d = C at *
      have HCAL := Lib.hid hcal; clear hcal
      have hx := heap_alloc_new w4 (.cells #[iV C.zone, .slice C.wA C.week.length C.wc, .slice C.hA C.hol.length C.hc] 58)
      have HX := Lib.hid hx; clear hx
      have HB5 := Lib.hid (bt HB4.out (ba w4 (.cells #[iV C.zone, .slice C.wA C.week.length C.wc, .slice C.hA C.hol.length C.hc] 58)))
      have HC5 := Lib.hid (HCC.out.below (ba w4 (.cells #[iV C.zone, .slice C.wA C.week.length C.wc, .slice C.hA C.hol.length C.hc] 58)))
      have k0 : (w4.alloc (.cells #[iV C.zone, .slice C.wA C.week.length C.wc, .slice C.hA C.hol.length C.hc] 58)).cell? ⟨w4.heap.size, 0, none⟩ = some (iV C.zone) := cell_of_row _ _ 0 _ _ _ HX.out
      have k1 : (w4.alloc (.cells #[iV C.zone, .slice C.wA C.week.length C.wc, .slice C.hA C.hol.length C.hc] 58)).cell? ⟨w4.heap.size, 1, none⟩ = some (.slice C.wA C.week.length C.wc) := cell_of_row _ _ 1 _ _ _ HX.out
      have k2 : (w4.alloc (.cells #[iV C.zone, .slice C.wA C.week.length C.wc, .slice C.hA C.hol.length C.hc] 58)).cell? ⟨w4.heap.size, 2, none⟩ = some (.slice C.hA C.hol.length C.hc) := cell_of_row _ _ 2 _ _ _ HX.out
      go_wp2_with fail
      generalize (w4.alloc (.cells #[iV C.zone, .slice C.wA C.week.length C.wc, .slice C.hA C.hol.length C.hc] 58)) = W5 at *
      generalize w4.heap.size = X at *
      refine (local_any C t _ HC5.out HCI.out.2.2 (by omega) (by omega)).mono ?_
      rintro e w6 ⟨rfl, hb⟩
      have HB6 := Lib.hid (bt HB5.out hb)
      have HC6 := Lib.hid (HC5.out.below hb)
      have HX6 := Lib.hid ((hb.block _ (block_lt HX.out)).trans HX.out)
      clear hb HB5 HC5 HX k0 k1 k2
      have k0 : w6.cell? ⟨X, 0, none⟩ = some (iV C.zone) := cell_of_row _ _ 0 _ _ _ HX6.out
      have k1 : w6.cell? ⟨X, 1, none⟩ = some (.slice C.wA C.week.length C.wc) := cell_of_row _ _ 1 _ _ _ HX6.out
      have k2 : w6.cell? ⟨X, 2, none⟩ = some (.slice C.hA C.hol.length C.hc) := cell_of_row _ _ 2 _ _ _ HX6.out
      go_wp2_with fail
      refine (local_any C D1 _ HC6.out HCI.out.2.2 (by omega) (by omega)).mono ?_
      rintro e w7 ⟨rfl, hb⟩
      have HB7 := Lib.hid (bt HB6.out hb)
      have HC7 := Lib.hid (HC6.out.below hb)
      have HX7 := Lib.hid ((hb.block _ (block_lt HX6.out)).trans HX6.out)
      clear hb HB6 HC6 HX6 k0 k1 k2
      have k0 : w7.cell? ⟨X, 0, none⟩ = some (iV C.zone) := cell_of_row _ _ 0 _ _ _ HX7.out
      have k1 : w7.cell? ⟨X, 1, none⟩ = some (.slice C.wA C.week.length C.wc) := cell_of_row _ _ 1 _ _ _ HX7.out
      have k2 : w7.cell? ⟨X, 2, none⟩ = some (.slice C.hA C.hol.length C.hc) := cell_of_row _ _ 2 _ _ _ HX7.out
      go_wp2_with fail
      refine (count_any C _ _ _ HC7.out HCI.out.2.2 HDA.out HDB.out).mono ?_
      rintro e w8 ⟨rfl, hb⟩
      have HB8 := Lib.hid (bt HB7.out hb)
      clear hb HB7 HC7 HX7 k0 k1 k2
      have HCN : Hid (needR n nx k o d t = if countR C (dayOf C t) (dayOf C D1) < 0 then none else some (countR C (dayOf C t) (dayOf C D1))) := by
        show _ = _
        unfold needR
        rw [if_neg (by rw [HH0.out]; simp), HLAST.out, HCAL.out, HD.out, if_neg (by simp)]
      generalize countR C (dayOf C t) (dayOf C D1) = x at *
      by_cases hx : 0 ≤ x
      · have HR : Hid (needR n nx k o d t = some x) := by show _ = _; rw [HCN.out, if_neg (by omega)]
        go_wp2_with fail
        refine (demand_yes _).mono ?_
        rintro e w9 ⟨rfl, rfl⟩
        go_wp2_with fail
        go_ret
        exact ⟨HB8.out, .inl ⟨x, HR.out, rfl⟩⟩
      · have HR : Hid (needR n nx k o d t = none) := by show _ = _; rw [HCN.out, if_pos (by omega)]
        have hx3 : decide (0 ≤ x) = false := by simpa using hx
        clear hx
        go_wp2_with fail
        refine (demand_no _).mono ?_
        rintro e w9 ⟨rfl, rfl⟩
        go_wp2_with fail
        exact ⟨rfl, HB8.out, .inr ⟨HR.out, _, rfl⟩⟩
end Go.Proofs.YtjpabeoflhkfkaaGreatDoor
