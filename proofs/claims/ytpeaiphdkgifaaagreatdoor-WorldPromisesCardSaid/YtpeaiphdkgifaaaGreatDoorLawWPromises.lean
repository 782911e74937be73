/-
  The walk over the law WorldPromises.
-/
import Derived.Test.YtpeaiphdkgifaaaGreatDoorVqWxWPromises
namespace Go.Proofs.YtpeaiphdkgifaaaGreatDoor
open Go.RowKit
set_option maxHeartbeats 20000000
set_option maxRecDepth 100000
section
attribute [local go_sem] Oper.semAt_some
theorem cutTopW {n : Net} (hs : bM n) {k o : Nat} (hk : k < n.clss.length) (ho : o < n.offs.length) {t : Int} (h0 : 0 <= t) (h1 : t <= 2000000) : cutoffTop n k o t = ak (calAt n o) (aw n k).cut t := by
 unfold cutoffTop
 rw [if_pos ⟨by unfold inB; simp; omega, by unfold inB; simp; omega, by unfold tOk; simp; omega, hs⟩, Int.toNat_natCast, Int.toNat_natCast]
theorem delTopW {n : Net} (hs : bM n) {k o : Nat} (hk : k < n.clss.length) (ho : o < n.offs.length) {t : Int} (h0 : 0 <= t) (h1 : t <= 2000000) : deliveryTop n k o t = cq (calAt n o) (ap n o) (aw n k) t := by
 unfold deliveryTop
 rw [if_pos ⟨by unfold inB; simp; omega, by unfold inB; simp; omega, by unfold tOk; simp; omega, hs⟩, Int.toNat_natCast, Int.toNat_natCast]
theorem wayTopW {n : Net} {nx : List NsC} (hs : bM n) (hf : bi n nx) {o d : Nat} (ho : o < n.offs.length) (hd : d < n.offs.length) {t : Int} (h0 : 0 <= t) (h1 : t <= 2000000) : wayTop n nx o d t = bA n nx d 19 o t := by
 unfold wayTop
 rw [if_pos ⟨by unfold inB; simp; omega, by unfold inB; simp; omega, by unfold tOk; simp; omega, hs, hf⟩, Int.toNat_natCast, Int.toNat_natCast]
theorem sg {n : Net} {nx : List NsC} {d : Nat} : ∀ (l : List St) (o : Nat) (t : Int), ej n nx d o t l -> l ≠ [] /\ (aj l).office = d /\ (aj l).depart = -1
 | [], _, _, h => h.elim
 | [s], _, _, h => by
  obtain ⟨rfl, rfl⟩ := h
  exact ⟨by simp, rfl, rfl⟩
 | s :: s' :: l, _, _, h => by
  obtain ⟨-, h1, h2⟩ := sg (s' :: l) _ _ h.2.2.2.2
  exact ⟨by simp, h1, h2⟩
theorem ux {n : Net} {k o : Nat} {t : Int} (h : (deliveryTop n k o t).2 = 0) : deliveryTop n k o t = cq (calAt n o) (ap n o) (aw n k) t := by
 unfold deliveryTop at h ⊢
 split
 ·rw [Int.toNat_natCast, Int.toNat_natCast]
 ·rename_i g
  rw [if_neg g] at h
  simp at h
theorem mW (n : Net) (fr till : Int) (nx : List NsC) (nxA : Option Addr) (nxC : Nat) (D : Option Addr) (dl dc : Nat) (DA : Option Addr) (DC : Nat) (ds : List Ded) (z : Nat) (w : World) (h : xb w n nx nxA DA DC ds) (hz : z <= 255) :
  Calls Tryz.prog 10 #[bB n, dI fr till nxA nx.length nxC D dl dc, .slice DA ds.length DC, u8V z] w fun e w' => e = .returned (.bool true) /\ Below w.heap.size w w' := by
 have HIN := aB h
 have HL := aB (LwW.start (fr := fr) (till := till) (nxC := nxC) (D := D) (dl := dl) (dc := dc) h)
 clear h
 go_enter Tryz.func10, Tryz.ntmps10
 go_upto_region 1 with fail
 change Code.wp _ _ _ _ (au w (dV n fr till nxA nx.length nxC D dl dc))
 generalize au w (dV n fr till nxA nx.length nxC D dl dc) = V1 at HL ⊢
 generalize hN : w.heap.size = N at HL ⊢
 rw [<- hN] at HL
 have HL : Hid (LwW w n fr till nx nxA nxC D dl dc DA ds N (N + 1) V1) := by have h9 := HL.out; rw [hN] at h9; exact h9
 generalize hP : N + 1 = P at HL ⊢
 clear hN hP
 go_wp2_with fail
 refine (us V1 HL.out.kw HL.out.pw).mono ?_
 rintro e V2 ⟨rfl, hb⟩
 replace HL := aB (HL.out.below hb)
 clear hb
 obtain ⟨⟨n0, n1, n2, n3, n4, n5⟩, p0, p1, p2, p3⟩ := HL.out.cells
 go_wp2_with fail
 have hcall := HL.out.fine (DC := DC) (fr := fr) (till := till) HIN.out
 have HCALL := aB hcall
 clear hcall
 with_reducible refine HCALL.out.mono ?_
 rintro e V3 ⟨⟨b, rfl, hf⟩, hb⟩
 clear HCALL
 clear n0 n1 n2 n3 n4 n5 p0 p1 p2 p3
 replace HL := aB (HL.out.below hb)
 clear hb
 have HFF := aB hf
 clear hf
 cases b
 case false =>
  go_wp2_with fail
  go_ret
  exact ⟨rfl, HL.out.bel⟩
 have HF := aB (HFF.out rfl)
 clear HFF
 cases g1 : decide (fr < 0)
 case true =>
  obtain ⟨⟨n0, n1, n2, n3, n4, n5⟩, p0, p1, p2, p3⟩ := HL.out.cells
  go_wp2_with fail
  go_ret
  exact ⟨rfl, HL.out.bel⟩
 cases g2 : decide (till <= fr)
 case true =>
  obtain ⟨⟨n0, n1, n2, n3, n4, n5⟩, p0, p1, p2, p3⟩ := HL.out.cells
  go_wp2_with fail
  go_ret
  exact ⟨rfl, HL.out.bel⟩
 cases g3 : decide (wrap64 (fr + 10) < till)
 case true =>
  obtain ⟨⟨n0, n1, n2, n3, n4, n5⟩, p0, p1, p2, p3⟩ := HL.out.cells
  go_wp2_with fail
  go_ret
  exact ⟨rfl, HL.out.bel⟩
 cases g4 : decide (600 < till)
 case true =>
  obtain ⟨⟨n0, n1, n2, n3, n4, n5⟩, p0, p1, p2, p3⟩ := HL.out.cells
  go_wp2_with fail
  go_ret
  exact ⟨rfl, HL.out.bel⟩
 have h1 : ¬ fr < 0 := of_decide_eq_false g1
 have h2 : ¬ till <= fr := of_decide_eq_false g2
 have h3 : ¬ wrap64 (fr + 10) < till := of_decide_eq_false g3
 have h4 : ¬ 600 < till := of_decide_eq_false g4
 have hw : wrap64 (fr + 10) = fr + 10 := by unfold wrap64; omega
 have HFT : Hid (0 <= fr /\ fr < till /\ till <= fr + 10 /\ till <= 600) := ⟨by omega, by omega, by rw [hw] at h3; omega, by omega⟩
 clear h1 h2 h3 h4 hw
 obtain ⟨⟨n0, n1, n2, n3, n4, n5⟩, p0, p1, p2, p3⟩ := HL.out.cells
 go_wp2_with fail
 have hcall := HL.out.run HF.out.sound HF.out.form HF.out.six (ds' := ds) rfl HF.out.ok (by have := HF.out.deds; omega) DA DC HL.out.rd
 have HCALL := aB hcall
 clear hcall
 with_reducible refine HCALL.out.mono ?_
 rintro e V4 ⟨hb, hR⟩
 clear HCALL
 clear n0 n1 n2 n3 n4 n5 p0 p1 p2 p3
 replace HL := aB (HL.out.below hb)
 clear hb
 rcases hR with ⟨hr, rfl⟩ | ⟨h, ts, A, c, hr, hts, rfl, hT⟩
 case inl =>
  clear hr
  go_wp2_with fail
  go_ret
  exact ⟨rfl, HL.out.bel⟩
 have HR := aB hr
 have HTS := aB hts
 have HT := aB hT
 have hl16 : ts.length <= 16 := by rw [hts.len]; exact HF.out.few16 hr
 have hd16 : ds.length <= 16 := HF.out.deds
 clear hr hts hT
 clear g1 g2 g3 g4
 by_cases g0 : ts.length = 0
 case pos =>
  have e0 : ((ts.length : Int) == 0) = true := by simp [g0]
  clear g0
  go_wp2_with fail
  go_ret
  exact ⟨rfl, HL.out.bel⟩
 have e0 : ((ts.length : Int) == 0) = false := by rw [aU]; omega
 have HTP : Hid (0 < ts.length) := by show 0 < ts.length; omega
 clear g0
 have z0 : (0 : Int) <= (z : Int) := by omega
 have z1 : (z : Int) <= 255 := by omega
 have s1 : (0 : Int) < (ts.length : Int) := by have := HTP.out; omega
 have m0 : 0 <= (z : Int) % (ts.length : Int) := Int.emod_nonneg _ (by omega)
 have m1 : (z : Int) % (ts.length : Int) < (ts.length : Int) := Int.emod_lt_of_pos _ s1
 obtain ⟨it, a, ht, hit⟩ := HTS.out.get (i := z % ts.length) (Nat.mod_lt _ HTP.out)
 obtain ⟨tb, to_, hA, hc⟩ := HT.out.atI ht
 have hc' := hc V4 (aJ _ _)
 obtain ⟨⟨x0, x1, x2, x3, x4⟩, x5, x6, x7, x8, x9⟩ := hc'
 have HI := aB (HF.out.item HR.out (aF hit) a)
 have HTI := aB (HT.out.tr _ (aF ht))
 rw [hA]
 clear hc ht hit hA
 go_upto_region 8 with fail
 clear x0 x1 x2 x3 x4 x5 x6 x7 x8 x9 m0 m1 s1
 have hb := ba V4 (gE (az it a))
 have hg := aC V4 (gE (az it a))
 replace HL := aB (HL.out.below hb)
 replace HT := aB (HT.out.below hb)
 replace HTI := aB (HTI.out.below hb)
 change Code.wp _ _ _ _ (V4.alloc (gE (az it a)))
 generalize (V4.alloc (gE (az it a))) = V4' at *
 generalize V4.heap.size = X at hg ⊢
 have HG := aB hg
 clear hb hg
 obtain ⟨⟨x0, x1, x2, x3, x4⟩, x5, x6, x7, x8, x9⟩   := px HG.out
 go_upto_region 9 with fail
 clear x0 x1 x2 x3 x4 x5 x6 x7 x8 x9
 have hb := ba V4' (.cells #[sV it.post.label, iV it.post.frm, iV it.post.dst, iV it.post.cls, iV it.post.acc] 42)
 have hy := aC V4' (.cells #[sV it.post.label, iV it.post.frm, iV it.post.dst, iV it.post.cls, iV it.post.acc] 42)
 replace HL := aB (HL.out.below hb)
 replace HT := aB (HT.out.below hb)
 replace HTI := aB (HTI.out.below hb)
 replace HG := aB ((hb.block _ (aa HG.out)).trans HG.out)
 change Code.wp _ _ _ _ (V4'.alloc (.cells #[sV it.post.label, iV it.post.frm, iV it.post.dst, iV it.post.cls, iV it.post.acc] 42))
 generalize (V4'.alloc (.cells #[sV it.post.label, iV it.post.frm, iV it.post.dst, iV it.post.cls, iV it.post.acc] 42)) = V5 at *
 generalize V4'.heap.size = Y at hy ⊢
 clear hb
 obtain ⟨o, ho⟩ := aN HI.out.pst.2.1.1
 obtain ⟨d, hd⟩ := aN HI.out.pst.2.2.1.1
 obtain ⟨k, hk⟩ := aN HI.out.pst.2.2.2.1.1
 have HOD : Hid ((it.post.frm = (o : Int) /\ it.post.dst = (d : Int) /\ it.post.cls = (k : Int)) /\ o < n.offs.length /\ d < n.offs.length /\ k < n.clss.length /\ 0 <= it.post.acc /\ it.post.acc <= 1000000) := by
  have h1 := HI.out.pst
  exact ⟨⟨ho, hd, hk⟩, by have := h1.2.1.2; omega, by have := h1.2.2.1.2; omega, by have := h1.2.2.2.1.2; omega, h1.2.2.2.2.1, h1.2.2.2.2.2⟩
 rw [ho, hd, hk] at hy
 have HY := aB hy
 clear hy ho hd hk
 obtain ⟨⟨n0, n1, n2, n3, n4, n5⟩, p0, p1, p2, p3⟩ := HL.out.cells
 have y0 := aA 0 HY.out
 have y1 := aA 1 HY.out
 have y2 := aA 2 HY.out
 have y3 := aA 3 HY.out
 have y4 := aA 4 HY.out
 go_wp2_with fail
 have hcall := m8 n k o it.post.acc V5 HL.out.nin HL.out.kw
 rw [cutTopW HF.out.sound HOD.out.2.2.2.1 HOD.out.2.1 HOD.out.2.2.2.2.1 (by have := HOD.out; omega)] at hcall
 have HCALL := aB hcall
 clear hcall
 with_reducible refine HCALL.out.mono ?_
 rintro e V6 ⟨rfl, hb⟩
 clear HCALL
 clear n0 n1 n2 n3 n4 n5 p0 p1 p2 p3
 clear y0 y1 y2 y3 y4
 replace HL := aB (HL.out.below hb)
 replace HT := aB (HT.out.below hb)
 replace HTI := aB (HTI.out.below hb)
 replace HG := aB ((hb.block _ (aa HG.out)).trans HG.out)
 replace HY := aB ((hb.block _ (aa HY.out)).trans HY.out)
 clear hb
 generalize hcu : ak (calAt n o) (aw n k).cut it.post.acc = cu
 obtain ⟨cut, ce⟩ := cu
 have HCU := aB hcu
 clear hcu
 obtain ⟨⟨n0, n1, n2, n3, n4, n5⟩, p0, p1, p2, p3⟩ := HL.out.cells
 have y0 := aA 0 HY.out
 have y1 := aA 1 HY.out
 have y2 := aA 2 HY.out
 have y3 := aA 3 HY.out
 have y4 := aA 4 HY.out
 go_wp2_with fail
 have hcall := s4 n nxA nxC nx fr till V6 HL.out.nin HL.out.tab HIN.out.len HL.out.kw HF.out.sound HF.out.form HFT.out.1 HFT.out.2.1 HFT.out.2.2.2 (by have := HFT.out; omega)
 have HCALL := aB hcall
 clear hcall
 with_reducible refine HCALL.out.mono ?_
 rintro e V7 hT
 obtain ⟨g, gc, dd, rfl, hD, hV, hb, -⟩ := pC hT (fun k' _ o' _ d' _ => by have := vH n nx k' o' d' fr till; unfold I64; omega) (by have := HF.out.six; omega)
 have HDT := aB (hD V7 (ig.refl _ _))
 have HTV := aB hV
 clear hT hD hV
 clear HCALL
 clear n0 n1 n2 n3 n4 n5 p0 p1 p2 p3
 clear y0 y1 y2 y3 y4
 replace HL := aB (HL.out.below hb)
 replace HT := aB (HT.out.below hb)
 replace HTI := aB (HTI.out.below hb)
 replace HG := aB ((hb.block _ (aa HG.out)).trans HG.out)
 replace HY := aB ((hb.block _ (aa HY.out)).trans HY.out)
 clear hb
 obtain ⟨⟨n0, n1, n2, n3, n4, n5⟩, p0, p1, p2, p3⟩ := HL.out.cells
 have y0 := aA 0 HY.out
 have y1 := aA 1 HY.out
 have y2 := aA 2 HY.out
 have y3 := aA 3 HY.out
 have y4 := aA 4 HY.out
 go_wp2_with fail
 obtain ⟨due, er, hdue, hcall⟩ := due_all n (some (aV g 0)) gc dd it.post.label o d k it.post.acc _ V7 HL.out.nin HDT.out (s5 HTV.out) HL.out.kw HF.out.sound HOD.out.2.1 HOD.out.2.2.1 HOD.out.2.2.2.1 HOD.out.2.2.2.2.1 HOD.out.2.2.2.2.2 (tabV_is HTV.out HOD.out.2.2.2.1 HOD.out.2.1 HOD.out.2.2.1)
 have HDUE := aB hdue
 clear hdue
 have HCALL := aB hcall
 clear hcall
 with_reducible refine HCALL.out.mono ?_
 rintro e V8 ⟨rfl, hb⟩
 clear HCALL
 clear n0 n1 n2 n3 n4 n5 p0 p1 p2 p3
 clear y0 y1 y2 y3 y4
 replace HL := aB (HL.out.below hb)
 replace HT := aB (HT.out.below hb)
 replace HTI := aB (HTI.out.below hb)
 replace HG := aB ((hb.block _ (aa HG.out)).trans HG.out)
 replace HY := aB ((hb.block _ (aa HY.out)).trans HY.out)
 clear hb
 obtain ⟨⟨n0, n1, n2, n3, n4, n5⟩, p0, p1, p2, p3⟩ := HL.out.cells
 have y0 := aA 0 HY.out
 have y1 := aA 1 HY.out
 have y2 := aA 2 HY.out
 have y3 := aA 3 HY.out
 have y4 := aA 4 HY.out
 go_wp2_with fail
 have hcall := way_any n nxA nxC nx o d it.post.acc V8 HL.out.nin HL.out.tab HIN.out.len HL.out.kw
 rw [wayTopW HF.out.sound HF.out.form HOD.out.2.1 HOD.out.2.2.1 HOD.out.2.2.2.2.1 (by have := HOD.out; omega)] at hcall
 have HCALL := aB hcall
 clear hcall
 with_reducible refine HCALL.out.mono ?_
 rintro e V9 ⟨hb, wA, wc, rfl, hwr⟩
 have HWR := aB hwr
 clear hwr
 clear HCALL
 clear n0 n1 n2 n3 n4 n5 p0 p1 p2 p3
 clear y0 y1 y2 y3 y4
 replace HL := aB (HL.out.below hb)
 replace HT := aB (HT.out.below hb)
 replace HTI := aB (HTI.out.below hb)
 replace HG := aB ((hb.block _ (aa HG.out)).trans HG.out)
 replace HY := aB ((hb.block _ (aa HY.out)).trans HY.out)
 clear hb
 generalize hway : bA n nx d 19 o it.post.acc = way at HWR ⊢
 obtain ⟨we, wl⟩ := way
 have HWY := aB hway
 clear hway
 cases e1 : (ce != 0)
 case true =>
  obtain ⟨⟨n0, n1, n2, n3, n4, n5⟩, p0, p1, p2, p3⟩ := HL.out.cells
  have y0 := aA 0 HY.out
  have y1 := aA 1 HY.out
  have y2 := aA 2 HY.out
  have y3 := aA 3 HY.out
  have y4 := aA 4 HY.out
  go_wp2_with fail
  go_ret
  exact ⟨rfl, HL.out.bel⟩
 cases e2 : (er != 0)
 case true =>
  obtain ⟨⟨n0, n1, n2, n3, n4, n5⟩, p0, p1, p2, p3⟩ := HL.out.cells
  have y0 := aA 0 HY.out
  have y1 := aA 1 HY.out
  have y2 := aA 2 HY.out
  have y3 := aA 3 HY.out
  have y4 := aA 4 HY.out
  go_wp2_with fail
  go_ret
  exact ⟨rfl, HL.out.bel⟩
 cases e3 : (we != 0)
 case true =>
  obtain ⟨⟨n0, n1, n2, n3, n4, n5⟩, p0, p1, p2, p3⟩ := HL.out.cells
  have y0 := aA 0 HY.out
  have y1 := aA 1 HY.out
  have y2 := aA 2 HY.out
  have y3 := aA 3 HY.out
  have y4 := aA 4 HY.out
  go_wp2_with fail
  go_ret
  exact ⟨rfl, HL.out.bel⟩
 cases e4 : ((wl.length : Int) == 0)
 case true =>
  obtain ⟨⟨n0, n1, n2, n3, n4, n5⟩, p0, p1, p2, p3⟩ := HL.out.cells
  have y0 := aA 0 HY.out
  have y1 := aA 1 HY.out
  have y2 := aA 2 HY.out
  have y3 := aA 3 HY.out
  have y4 := aA 4 HY.out
  go_wp2_with fail
  go_ret
  exact ⟨rfl, HL.out.bel⟩
 have hf1 := HFT.out.1
 have hf2 := HFT.out.2.1
 have hf4 := HFT.out.2.2.2
 cases e5 : decide (cut < 1440 * fr)
 case true =>
  obtain ⟨⟨n0, n1, n2, n3, n4, n5⟩, p0, p1, p2, p3⟩ := HL.out.cells
  have y0 := aA 0 HY.out
  have y1 := aA 1 HY.out
  have y2 := aA 2 HY.out
  have y3 := aA 3 HY.out
  have y4 := aA 4 HY.out
  go_wp2_with fail
  go_ret
  exact ⟨rfl, HL.out.bel⟩
 cases e6 : decide (1440 * till <= cut)
 case true =>
  obtain ⟨⟨n0, n1, n2, n3, n4, n5⟩, p0, p1, p2, p3⟩ := HL.out.cells
  have y0 := aA 0 HY.out
  have y1 := aA 1 HY.out
  have y2 := aA 2 HY.out
  have y3 := aA 3 HY.out
  have y4 := aA 4 HY.out
  go_wp2_with fail
  go_ret
  exact ⟨rfl, HL.out.bel⟩
 obtain ⟨⟨n0, n1, n2, n3, n4, n5⟩, p0, p1, p2, p3⟩ := HL.out.cells
 have y0 := aA 0 HY.out
 have y1 := aA 1 HY.out
 have y2 := aA 2 HY.out
 have y3 := aA 3 HY.out
 have y4 := aA 4 HY.out
 go_wp2_with fail
 have hcall := HL.out.clean HF.out it.post.label DC
 have HCALL := aB hcall
 clear hcall
 with_reducible refine HCALL.out.mono ?_
 rintro e V10 ⟨rfl, hb⟩
 clear HCALL
 clear n0 n1 n2 n3 n4 n5 p0 p1 p2 p3
 clear y0 y1 y2 y3 y4
 replace HL := aB (HL.out.below hb)
 replace HT := aB (HT.out.below hb)
 replace HTI := aB (HTI.out.below hb)
 replace HG := aB ((hb.block _ (aa HG.out)).trans HG.out)
 replace HY := aB ((hb.block _ (aa HY.out)).trans HY.out)
 replace HWR := aB (HWR.out.below hb)
 clear hb
 cases hcl : cG n nx ds it.post.label
 case false =>
  go_wp2_with fail
  go_ret
  exact ⟨rfl, HL.out.bel⟩
 have h1 : ce = 0 := by simpa using e1
 have h2 : er = 0 := by simpa using e2
 have h3 : we = 0 := by simpa using e3
 subst h1 h2 h3
 have h5 : ¬ cut < 1440 * fr := of_decide_eq_false e5
 have h6 : ¬ 1440 * till <= cut := of_decide_eq_false e6
 clear e1 e2 e3 e4 e5 e6
 have hcw := uB HF.out.sound.1.good HF.out.form HR.out HF.out.ok HI.out.mem (qu HR.out (gG HF.out.sound.1.good HF.out.form HR.out HF.out.ok).1.nodup HI.out.mem hcl) HOD.out.1.1 HOD.out.1.2.1 HWY.out
 have hwo := oA 19 o it.post.acc (by rw [HWY.out])
 rw [HWY.out] at hwo
 replace hwo : ej n nx d o it.post.acc wl /\ wl.length <= 19 + 1 := hwo
 obtain ⟨hne, hlo, hld⟩ := sg _ _ _ hwo.1
 obtain ⟨q, hq⟩ : ∃ q, wl.length = q + 1 := ⟨wl.length - 1, by have := aL.2 hne; omega⟩
 have hq20 : q <= 19 := by have h8 : wl.length <= 19 + 1 := hwo.2; omega
 have hlast : wl[q]? = some (aj wl) := by
  unfold aj
  rw [List.getLastD_eq_getLast?, List.getLast?_eq_getElem?, show wl.length - 1 = q by omega, aD (by omega)]
  rfl
 obtain ⟨-, wb, wo, hwA, -, -, yj⟩ := ay cH HWR.out hlast (by omega)
 have u1 : V10.cell? (aV wb (wo + q * 4 + 1)) = some (iV (aj wl).arrive) := yj 1 _ rfl
 have HPL := aB (And.intro hcw (And.intro hlo hld))
 have HCT : Hid (1440 * fr <= cut /\ cut < 1440 * till) := ⟨by omega, by omega⟩
 rw [hwA]
 have q0 : (0 : Int) <= (q : Int) := by omega
 have q1 : (q : Int) < (wl.length : Int) := by omega
 have q2 : (wl.length : Int) <= 20 := by omega
 have eq1 : IntKind.i64.wrap ((wl.length : Int) - 1) = (q : Int) := by rw [aO _ (by omega)]; omega
 clear hq
 have HD0 : Hid (Below V10.heap.size V10 V10.drew) := al (aJ _ _)
 have HU := aB u1
 have HSQ : Hid (∀ w', Below V10.heap.size V10 w' -> (w'.cell? (aV N 0) = some (.slice n.calA n.cals.length n.calC) /\ w'.cell? (aV N 1) = some (.slice n.namA n.names.length n.namC) /\ w'.cell? (aV N 2) = some (.slice n.opA n.ops.length n.opC) /\ w'.cell? (aV N 3) = some (.slice n.offA n.offs.length n.offC) /\ w'.cell? (aV N 4) = some (.slice n.linA n.lins.length n.linC) /\ w'.cell? (aV N 5) = some (.slice n.clsA n.clss.length n.clsC) /\ w'.cell? (aV Y 3) = some (iV k) /\ w'.cell? (aV Y 2) = some (iV d) /\ w'.cell? (aV wb (wo + q * 4 + 1)) = some (iV (aj wl).arrive))) := fun w' hb => by
  obtain ⟨⟨x0, x1, x2, x3, x4, x5⟩, -⟩ := (HL.out.below hb).cells
  exact ⟨x0, x1, x2, x3, x4, x5, ag hb (aA 3 HY.out), ag hb (aA 2 HY.out), ag hb HU.out⟩
 have HCC : Hid (∀ W, Below V10.heap.size V10 W -> Calls Tryz.prog 29 #[bB n, iV k, iV d, iV (aj wl).arrive] W fun e w' => e = .returned (.tuple #[iV (deliveryTop n k d (aj wl).arrive).1, iV (deliveryTop n k d (aj wl).arrive).2]) /\ Below W.heap.size W w') := fun W hb =>
  iI n k d (aj wl).arrive W (HL.out.nin.below hb) (HL.out.kw.below hb)
 clear u1 hcw hwo hne hlo hld hq20 hlast hwA yj h5 h6 hcl hf1 hf2 hf4
 go_wp2_with fail
 go_region_held3 (fun w' => w'.cell? (aV N 0) = some (.slice n.calA n.cals.length n.calC) /\ w'.cell? (aV N 1) = some (.slice n.namA n.names.length n.namC) /\ w'.cell? (aV N 2) = some (.slice n.opA n.ops.length n.opC) /\ w'.cell? (aV N 3) = some (.slice n.offA n.offs.length n.offC) /\ w'.cell? (aV N 4) = some (.slice n.linA n.lins.length n.linC) /\ w'.cell? (aV N 5) = some (.slice n.clsA n.clss.length n.clsC) /\ w'.cell? (aV Y 3) = some (iV k) /\ w'.cell? (aV Y 2) = some (iV d) /\ w'.cell? (aV wb (wo + q * 4 + 1)) = some (iV (aj wl).arrive)) (first | (with_reducible exact HSQ.out _ HD0.out) | (with_reducible exact HSQ.out _ HU1.out)) (first
   | (go_at_call 29; refine (HCC.out _ HD0.out).mono ?_; rintro e u1 ⟨rfl, hb1⟩; have HU1 := aB (bt HD0.out hb1); clear hb1)
   | fail)
 have hb := HU1.out
 replace HL := aB (HL.out.below hb)
 replace HT := aB (HT.out.below hb)
 replace HTI := aB (HTI.out.below hb)
 replace HG := aB ((hb.block _ (aa HG.out)).trans HG.out)
 replace HY := aB ((hb.block _ (aa HY.out)).trans HY.out)
 clear HSQ HCC HD0 HU hb q0 q1 eq1
 cases hdl : ((deliveryTop n k d (aj wl).arrive).2 != 0)
 case true =>
  go_wp2_with fail
  go_ret
  exact ⟨rfl, HL.out.bel⟩
 have hdz : (deliveryTop n k d (aj wl).arrive).2 = 0 := by simpa using hdl
 have hdr : delR n it.post it.stops it.lost it.labs = some (deliveryTop n k d (aj wl).arrive).1 := by
  unfold delR
  obtain ⟨⟨a1, a2, a3⟩, a4, a5⟩ := HPL.out
  rw [a1, a2, a3, a4, a5, HOD.out.1.2.1, HOD.out.1.2.2, if_neg (by simp), if_pos hdz]
 have hpr : (deliveryTop n k d (aj wl).arrive).1 <= due := by
  obtain ⟨cut', Z, d1, d2, d3, d4⟩ := HDUE.out (by simp)
  rw [HCU.out] at d1
  cases d1
  have h7 := ux hdz
  have h8 : (cq (calAt n d) (ap n d) (aw n k) (aj wl).arrive).2 = 0 := by rw [<- h7]; exact hdz
  rw [h7]
  have h9 := uh HF.out.sound.1.good HF.out.form HF.out.six (by have := HFT.out; omega) HOD.out.2.2.2.1 HOD.out.2.1 HOD.out.2.2.1 d2 HCU.out HCT.out.1 HCT.out.2 (by rw [HWY.out]) (by rw [HWY.out]; exact h8) d3
  rw [HWY.out] at h9
  rw [d4]
  exact h9
 generalize (deliveryTop n k d (aj wl).arrive).1 = x at hdr hpr
 obtain ⟨⟨n0, n1, n2, n3, n4, n5⟩, p0, p1, p2, p3⟩ := HL.out.cells
 obtain ⟨⟨x0, x1, x2, x3, x4⟩, x5, x6, x7, x8, x9⟩   := px HG.out
 go_wp2_with fail
 have hcall := gI n (az it a) u1 HL.out.nin HL.out.kw HF.out.sound HTI.out HI.out.short.1 HI.out.short.2.2.1 (fP HI.out.ok.path) HI.out.ok.labs.2
 rw [show delR n (az it a).post (az it a).stops (az it a).lost (az it a).labs = some x from hdr] at hcall
 have HCALL := aB hcall
 clear hcall
 refine HCALL.out.mono ?_
 rintro e u2 ⟨rfl, hb⟩
 have HB8 : Hid (Below w.heap.size w u2) := HL.out.bel.trans (hb.mono HL.out.bel.size)
 clear HCALL
 unfold delV
 go_wp2_with fail
 go_ret
 exact ⟨rfl, HB8.out⟩
end
end Go.Proofs.YtpeaiphdkgifaaaGreatDoor
