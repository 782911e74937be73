/- The walk over timetable.Depart. -/
import Derived.Test.YtpeaiphdkgifaaaGreatDoorVqTimFirst
namespace Go.Proofs.YtpeaiphdkgifaaaGreatDoor
open Go.RowKit
set_option maxHeartbeats 20000000
set_option maxRecDepth 100000
section
attribute [local go_sem] Oper.semAt_some
theorem ql {c : Cal} {m t : Int} : ((ak c m t).2 = 0 /\ ((ak c m t).2 == 0) = true) ∨ (ak c m t = (0, 20) /\ ((ak c m t).2 == 0) = false) := by
 by_cases h : (ak c m t).2 = 0
 ·exact .inl ⟨h, by rw [h]; rfl⟩
 ·refine .inr ⟨?_, by rw [aU]; exact h⟩
  exact jW h
theorem pA (n : Net) (l o ci : Nat) (L : Lin) (of : Off) (c : Cal) (t : Int) (w : World) (hn : bj w n) (hk : KW w) (hs : bM n) (h0 : n.lins[l]? = some L) (hf : L.frm = (o : Int)) (h1 : n.offs[o]? = some of) (h2 : of.cal = (ci : Int)) (h3 : n.cals[ci]? = some c) (hv : du c = true) (a1 : 0 <= L.at_) (a2 : L.at_ < 1440) (ht : tOk t = true) :
  Calls Tryz.prog 15 #[bB n, iV l, iV t] w fun e w' => e = .returned (.tuple #[iV (aZ c L t).1, iV (aZ c L t).2]) /\ Below w.heap.size w w' := by
 have hx0 := aC w (ae n)
 have hb0 := ba w (ae n)
 have HNP : Hid (br (w.alloc (ae n)) w.heap.size n) := ⟨fun i v hv => (aA _ hx0).trans hv, hn.below hb0⟩
 have HB0 := aB hb0
 have HK := aB (hk.below hb0)
 have HS := aB hs
 have HV := aB hv
 have HT := aB ht
 have HARG : Hid (n.lins[l]? = some L /\ L.frm = (o : Int) /\ n.offs[o]? = some of /\ of.cal = (ci : Int) /\ n.cals[ci]? = some c) := ⟨h0, hf, h1, h2, h3⟩
 have HLL := aB (aE.1 h0).1
 have HR : Hid (aZ c L t = ak c L.at_ t) := by show _ = _; unfold aZ; rw [if_pos ht]
 rw [HR.out]
 have n0 : (w.alloc (ae n)).cell? (aV w.heap.size 0) = some (.slice n.calA n.cals.length n.calC) := HNP.out.box 0 _ rfl
 have n1 : (w.alloc (ae n)).cell? (aV w.heap.size 1) = some (.slice n.namA n.names.length n.namC) := HNP.out.box 1 _ rfl
 have n2 : (w.alloc (ae n)).cell? (aV w.heap.size 2) = some (.slice n.opA n.ops.length n.opC) := HNP.out.box 2 _ rfl
 have n3 : (w.alloc (ae n)).cell? (aV w.heap.size 3) = some (.slice n.offA n.offs.length n.offC) := HNP.out.box 3 _ rfl
 have n4 : (w.alloc (ae n)).cell? (aV w.heap.size 4) = some (.slice n.linA n.lins.length n.linC) := HNP.out.box 4 _ rfl
 have n5 : (w.alloc (ae n)).cell? (aV w.heap.size 5) = some (.slice n.clsA n.clss.length n.clsC) := HNP.out.box 5 _ rfl
 clear hn hk hs hx0 hb0 h0 hf h1 h2 h3 hv ht
 go_enter Tryz.func15, Tryz.ntmps15
 go_upto_region 1 with fail
 change Code.wp _ _ _ _ (w.alloc (ae n))
 generalize (w.alloc (ae n)) = W at *
 generalize hX : w.heap.size = X at *
 have HX := aB hX; clear hX
 go_wp2_with fail
 have hx1 := aC W (.cells #[iV t] 3)
 have hb1 := ba W (.cells #[iV t] 3)
 refine (qU n l W.heap.size t _ (HNP.out.net.below hb1) (HK.out.below hb1) HS.out HLL.out HT.out (aA 0 hx1)).mono ?_
 rintro e w1 ⟨rfl, hb⟩
 have HB1 := aB (bt hb1 hb)
 have HN1 := aB (HNP.out.below HB1.out)
 clear hb hb1 hx1 n0 n1 n2 n3 n4 n5
 have n0 := HN1.out.box 0 _ rfl
 have n1 := HN1.out.box 1 _ rfl
 have n2 := HN1.out.box 2 _ rfl
 have n3 := HN1.out.box 3 _ rfl
 have n4 := HN1.out.box 4 _ rfl
 have n5 := HN1.out.box 5 _ rfl
 go_wp2_with fail
 have t12 : 0 <= t /\ t <= 2000000 := by have h := HT.out; unfold tOk at h; simpa using h
 refine (qX n l o ci L of c t _ HN1.out.net HARG.out.1 HARG.out.2.1 HARG.out.2.2.1 HARG.out.2.2.2.1 HARG.out.2.2.2.2 HV.out a1 a2 t12.1 (by omega)).mono ?_
 rintro e w2 ⟨rfl, hb⟩
 have HB2 : Hid (Below w.heap.size w w2) := by have h := HB0.out; rw [<- HX.out] at h; exact bt (bt h HB1.out) hb
 clear hb n0 n1 n2 n3 n4 n5 t12
 rcases ql (c := c) (m := L.at_) (t := t) with ⟨h2, h3⟩ | ⟨h2, h3⟩
 ·have HR2 := aB h2
  rw [h3]
  clear h2 h3
  go_wp2_with fail
  go_ret2
  refine ⟨?_, HB2.out⟩
  rw [HR2.out]
  rfl
 ·have HR2 := aB h2
  rw [h3]
  clear h2 h3
  go_wp2_with fail
  go_ret2
  refine ⟨?_, HB2.out⟩
  rw [HR2.out]
  rfl
end
end Go.Proofs.YtpeaiphdkgifaaaGreatDoor
