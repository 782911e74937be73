/- The walk over swap. -/
import Derived.Test.YtpeaiphdkgifaaaGreatDoorVba
import Derived.Test.YtpeaiphdkgifaaaGreatDoorVap
import Derived.StillTailTactics
namespace Go.Proofs.YtpeaiphdkgifaaaGreatDoor
open Go.RowKit
set_option maxHeartbeats 20000000
set_option maxRecDepth 100000
theorem vR (base : Nat) (it : Itm) (a : ItA) (w : World) (h : cD base w it a) (h1 : 1 <= it.stops.length) (h2 : it.stops.length <= 100) :
  Calls Tryz.prog 100 #[.pointer (some (aV a.b 0))] w fun e w' => e = .returned (.pointer (some (aV a.sB ((it.stops.length - 1) * 4)))) /\ ∃ m, w' = w.drewN m := by
 obtain ⟨lv, -, -, hc⟩ := h.cell
 have c5 : w.cell? (aV a.b 5) = some (.slice (some (aV a.sB 0)) it.stops.length a.sC) := hc 5 _ rfl
 clear h hc
 have e0 : (0 : Int) <= (it.stops.length : Int) - 1 := by omega
 have e1 : (it.stops.length : Int) - 1 < (it.stops.length : Int) := by omega
 have e2 : IntKind.i64.wrap ((it.stops.length : Int) - 1) = (it.stops.length : Int) - 1 := aO _ (by omega)
 have e3 : ((it.stops.length : Int) - 1).toNat = it.stops.length - 1 := by omega
 go_enter Tryz.func100, Tryz.ntmps100
 go_upto_region 1 with fail
 go_quiet (fail)
 go_wp2
 go_ret
 exact ⟨rfl, nq, rfl⟩
structure SwI (base : Nat) (W : World) (it : Itm) (a : ItA) : Prop where
 in_ : cD base W it a
 st : 1 <= it.stops.length /\ it.stops.length <= 100
 la : it.labs ≠ [] /\ it.labs.length <= 100000
 si : it.since.length <= 100000
theorem mR (it : Itm) (l : List UInt8) (t : Int) : bq (bh it l t) = l := by unfold bq bh; simp [List.getLastD_eq_getLast?]
theorem ta (it : Itm) (l : List UInt8) (t : Int) : gP (bh it l t) = t := by unfold gP bh; simp [List.getLastD_eq_getLast?]
theorem jl.relab {n : Net} {h h' : Hst} {it jt : Itm} {t : Int} (hi : jl n h it) (hj : jl n h jt) (hp : h'.items.map (·.post) = h.items.map (·.post)) (hb : it.labs.length <= 1000 /\ it.since.length <= 1000) (ht : 0 <= t /\ t <= 1000000) : jl n h' (bh it (bq jt) t) /\ bw h'.items (bh it (bq jt) t) = bQ h.items (bq jt) := by
 have hto : bw h'.items (bh it (bq jt) t) = bQ h.items (bq jt) := by
  unfold bw
  rw [mR]
  exact ew hp _
 refine ⟨⟨hi.st, hi.of, hi.ar, ⟨by unfold bh; simp, by unfold bh; simp; omega⟩, ⟨by unfold bh; simp, by unfold bh; simp; omega⟩, by rw [ta]; exact ht, ?_, by rw [hto]; exact hj.ds, hi.ho⟩, hto⟩
 rw [mR]
 exact ⟨hj.ca.1, kT hp hj.ca.2⟩
theorem u6 (w W : World) (n : Net) (nx : List NsC) (nxA : Option Addr) (nxC : Nat) (h : Hst) (A : HsA) (d : Ded) (hS : bM n) (hF : bi n nx) (H : WdH w W n nx nxA nxC h A) (hD : ∀ it ∈ h.items, jl n h it) (hB : ∀ it ∈ h.items, it.labs.length <= 1000 /\ it.since.length <= 1000) (ht : 0 <= d.time /\ d.time <= 1000000) (hn : (h.items.map fun i => i.post.label).Nodup) (hl : d.label.length <= 1000 /\ d.other.length <= 1000) (hi : ∃ i ∈ h.items, i.post.label = d.label) (hj : ∃ i ∈ h.items, i.post.label = d.other) (hne : d.label ≠ d.other) (hk : d.kind = 4) :
  Calls Tryz.prog 97 #[.pointer (some (aV A.hb 0)), kF d] W fun e W' => e = .returned (.tuple #[]) /\ ∃ A', WdH w W' n nx nxA nxC (dR n nx h d) A' /\ A'.core = A.core := by
 obtain ⟨i0, hi0, hz0, hz1, hz2⟩ := info_parts intTInf
 obtain ⟨s0, hs0, hsa, hsb, hsc⟩ := info_parts strTInf
 have hb0 : Below W.heap.size W (W.alloc (an d)).drew := al (ba W (an d))
 have hx0 : (W.alloc (an d)).drew.heap[W.heap.size]? = some (an d) := aC W (an d)
 have H0 := H.below hb0
 obtain ⟨p, it, a, h1, h2, h3, h4, hlk⟩ := H0.look hl.1 hi
 obtain ⟨q, jt, b, k1, k2, k3, k4, hlk2⟩ := H0.look hl.2 hj
 have c8 : (W.alloc (an d)).drew.cell? (aV A.hb 8) = some (.map (some A.nm)) := H0.hs.cell rfl
 have c3 : (W.alloc (an d)).drew.cell? (aV W.heap.size 7) = some (sV d.label) := aA 7 hx0
 have c4 : (W.alloc (an d)).drew.cell? (aV W.heap.size 8) = some (sV d.other) := aA 8 hx0
 have hq1 := hlk _ (aJ _ _)
 have hq2 := hlk2 _ (aJ _ _)
 have HH0 := aB H0
 have HX0 := aB hx0
 have HI := aB (And.intro h1 (And.intro h2 (And.intro h3 h4)))
 have HJ := aB (And.intro k1 (And.intro k2 (And.intro k3 k4)))
 have HK := aB hk
 have HNE := aB hne
 have HD := aB hD
 have HBB := aB hB
 have HT := aB ht
 have HNN := aB hn
 have HF := aB hF
 have HXA : Hid (∀ b ∈ A.all, b < W.heap.size) := fun b hb => (H.hs.lt b hb).2
 clear hk hne hD hB ht hn hF hlk hlk2 h1 h2 h3 h4 k1 k2 k3 k4 H0 hx0 hb0 H hl hi hj
 go_enter Tryz.func97, Tryz.ntmps97
 go_upto_region 1 with fail
 go_region
 clear c8 c3 c4 hq1 hq2
 change Exit.then _ _ _ _ (W.alloc (an d)).drew
 generalize (W.alloc (an d)).drew = W1 at *
 generalize W.heap.size = X at *
 have hit := HH0.out.hs.item p it a HI.out.1 HI.out.2.1
 have hjt := HH0.out.hs.item q jt b HJ.out.1 HJ.out.2.1
 have hdi := HD.out it (aF HI.out.1)
 have hdj := HD.out jt (aF HJ.out.1)
 obtain ⟨la0, la1⟩ := hit.last hdi.st.1
 obtain ⟨lb0, lb1⟩ := hjt.last hdj.st.1
 have t1 : W1.cell? (aV X 1) = some (iV d.time) := aA 1 HX0.out
 have BA : Hid (∀ m, Calls Tryz.prog 100 #[.pointer (some (aV a.b 0))] (W1.drewN m) fun e w'' => e = .returned (.pointer (some (aV a.sB ((it.stops.length - 1) * 4)))) /\ ∃ j, w'' = W1.drewN j) := fun m => by
  refine (vR w.heap.size it a _ (hit.below (ai (aJ _ _) m)) hdi.st.1 hdi.st.2).mono ?_
  rintro e w' ⟨rfl, j, rfl⟩
  exact ⟨rfl, m + j, by rw [World.drewN_drewN]⟩
 have BB : Hid (∀ m, Calls Tryz.prog 100 #[.pointer (some (aV b.b 0))] (W1.drewN m) fun e w'' => e = .returned (.pointer (some (aV b.sB ((jt.stops.length - 1) * 4)))) /\ ∃ j, w'' = W1.drewN j) := fun m => by
  refine (vR w.heap.size jt b _ (hjt.below (ai (aJ _ _) m)) hdj.st.1 hdj.st.2).mono ?_
  rintro e w' ⟨rfl, j, rfl⟩
  exact ⟨rfl, m + j, by rw [World.drewN_drewN]⟩
 have HSI : Hid (SwI w.heap.size W1 it a /\ SwI w.heap.size W1 jt b) := ⟨⟨hit, hdi.st, hdi.la, hdi.si.2⟩, ⟨hjt, hdj.st, hdj.la, hdj.si.2⟩⟩
 have hact : dR n nx h d = if lu it jt d.time then { h with items := (h.items.set p (aY n nx h.canc (bQ h.items (bq jt)) (bh it (bq jt) d.time))).set q (aY n nx h.canc (bQ h.items (bq it)) (bh jt (bq it) d.time)) } else h := by
  have hk := HK.out
  unfold dR
  rw [if_neg (by omega), if_neg (by omega), if_neg (by omega), if_pos hk, HI.out.2.2.2, HJ.out.2.2.2]
  dsimp only
  congr 1
  have := vK HNN.out HI.out.1 HJ.out.1 HI.out.2.2.1 HJ.out.2.2.1 HNE.out (fun i => aY n nx h.canc (bQ h.items (bq jt)) (bh i (bq jt) d.time)) (fun i => aY n nx h.canc (bQ h.items (bq it)) (bh i (bq it) d.time))
  rw [<- this]
  rfl
 have HAC := aB hact
 clear hit hjt hdi hdj hact
 have HME : Hid (lu it jt d.time = (((aj it.stops).office == (aj jt.stops).office) && decide ((aj it.stops).arrive <= d.time) && decide ((aj jt.stops).arrive <= d.time))) := rfl
 have HOUT : Hid (∀ m, lu it jt d.time = false -> ∃ A', WdH w (W1.drewN m) n nx nxA nxC (dR n nx h d) A' /\ A'.core = A.core) := fun m hm => by
  rw [HAC.out, hm]
  exact ⟨A, HH0.out.below (ai (aJ _ _) m), rfl⟩
 generalize (aj it.stops).office = oa at *
 generalize (aj it.stops).arrive = ra at *
 generalize (aj jt.stops).office = ob at *
 generalize (aj jt.stops).arrive = rb at *
 go_upto_region 2 with fail
 by_cases g1 : oa = ob
 case neg =>
  have e1 : (oa != ob) = true := by simpa using g1
  have HM : Hid (lu it jt d.time = false) := by show _ = _; rw [HME.out]; simp [g1]
  clear g1
  go_quiet (first | (with_reducible exact BA.out _) | (with_reducible exact BB.out _))
  go_wp2_with fail
  exact bodyPost_ret (results_none rfl _ _ _) rfl ⟨rfl, HOUT.out _ HM.out⟩
 have e1 : (oa != ob) = false := by simpa using g1
 by_cases g2 : ra <= d.time
 case neg =>
  have e2 : d.time < ra := by omega
  have HM : Hid (lu it jt d.time = false) := by show _ = _; rw [HME.out]; simp [g2]
  clear g1 g2
  go_quiet (first | (with_reducible exact BA.out _) | (with_reducible exact BB.out _))
  go_wp2_with fail
  exact bodyPost_ret (results_none rfl _ _ _) rfl ⟨rfl, HOUT.out _ HM.out⟩
 have e2 : ¬ d.time < ra := by omega
 by_cases g3 : rb <= d.time
 case neg =>
  have e3 : d.time < rb := by omega
  have HM : Hid (lu it jt d.time = false) := by show _ = _; rw [HME.out]; simp [g3]
  clear g1 g2 g3
  go_quiet (first | (with_reducible exact BA.out _) | (with_reducible exact BB.out _))
  go_wp2_with fail
  exact bodyPost_ret (results_none rfl _ _ _) rfl ⟨rfl, HOUT.out _ HM.out⟩
 have e3 : ¬ d.time < rb := by omega
 have HM : Hid (lu it jt d.time = true) := by show _ = _; rw [HME.out]; simp [g1, g2, g3]
 clear g1 g2 g3
 go_quiet (first | (with_reducible exact BA.out _) | (with_reducible exact BB.out _))
 clear e1 e2 e3 la0 la1 lb0 lb1 t1 BA BB HOUT HME
 have HB1 : Hid (Below W1.heap.size W1 (W1.drewN nq)) := ai (aJ _ _) nq
 have HH1 := aB (HH0.out.below HB1.out)
 have HX1 := aB ((HB1.out.block _ (aa HX0.out)).trans HX0.out)
 have HSI1 : Hid (SwI w.heap.size (W1.drewN nq) it a /\ SwI w.heap.size (W1.drewN nq) jt b) := ⟨⟨HSI.out.1.in_.below HB1.out, HSI.out.1.st, HSI.out.1.la, HSI.out.1.si⟩, ⟨HSI.out.2.in_.below HB1.out, HSI.out.2.st, HSI.out.2.la, HSI.out.2.si⟩⟩
 go_upto_region 3 with fail
 change Code.wp _ _ _ _ (W1.drewN nq)
 clear HSI HH0 HX0 HB1
 generalize (W1.drewN nq) = W2 at *
 go_wp2_with fail
 refine (jf w.heap.size it a _ HSI1.out.1.in_ HSI1.out.1.la.1 HSI1.out.1.la.2).mono ?_
 rintro e w3 ⟨rfl, hb⟩
 have HB3 := aB hb
 clear hb
 go_wp2_with fail
 refine (jf w.heap.size jt b _ (HSI1.out.2.in_.below HB3.out) HSI1.out.2.la.1 HSI1.out.2.la.2).mono ?_
 rintro e w4 ⟨rfl, hb⟩
 have HB4 := aB (bt HB3.out hb)
 clear hb HB3
 have HH4 := aB (HH1.out.below HB4.out)
 have HX4 := aB ((HB4.out.block _ (aa HX1.out)).trans HX1.out)
 have HIa := aB (HSI1.out.1.in_.below HB4.out)
 have HIb := aB (HSI1.out.2.in_.below HB4.out)
 have HSN : Hid (it.since.length <= 100000 /\ jt.since.length <= 100000 /\ it.labs.length <= 100000 /\ jt.labs.length <= 100000) := ⟨HSI1.out.1.si, HSI1.out.2.si, HSI1.out.1.la.2, HSI1.out.2.la.2⟩
 clear HSI1 HH1 HX1 HB4
 have hpq : p ≠ q := fun e => by
  have h1 := HI.out.1
  rw [e, HJ.out.1] at h1
  cases h1
  exact HNE.out (HI.out.2.2.1.symm.trans HJ.out.2.2.1)
 have HPQ := aB hpq
 have HNB : Hid ((a.blks ++ b.blks).Nodup) := by
  have h9 := HH4.out.hs
  refine List.nodup_append.2 ⟨(h9.blks HI.out.2.1).1, (h9.blks HJ.out.2.1).1, fun x hx y hy e => ?_⟩
  subst e
  have hpw := (List.pairwise_flatMap.1 (List.nodup_append.1 h9.nodup).2.1).2
  obtain ⟨g1, e1⟩ := aE.1 HI.out.2.1
  obtain ⟨g2, e2⟩ := aE.1 HJ.out.2.1
  rcases Nat.lt_or_gt_of_ne hpq with hlt | hlt
  ·exact List.pairwise_iff_getElem.1 hpw p q g1 g2 hlt x (by rw [e1]; exact hx) x (by rw [e2]; exact hy) rfl
  ·exact List.pairwise_iff_getElem.1 hpw q p g2 g1 hlt x (by rw [e2]; exact hy) x (by rw [e1]; exact hx) rfl
 clear hpq
 go_upto_region 4 with fail
 go_cut [] from 57 to 112 (fun wx => ∃ (a' b' : ItA), Two w.heap.size w4 wx a b a' b' { it with since := it.since ++ [d.time] } { jt with since := jt.since ++ [d.time] })
 case first =>
  obtain ⟨lv, -, -, lA⟩ := HIa.out.cells
  obtain ⟨mv, -, -, lB⟩ := HIb.out.cells
  obtain ⟨⟨ab_s, ab_n, ab_l, as_n, as_l, an_l⟩, ⟨bb_s, bb_n, bb_l, bs_n, bs_l, bn_l⟩, ⟨⟨x11, x12, x13, x14⟩, ⟨x21, x22, x23, x24⟩, ⟨x31, x32, x33, x34⟩, ⟨x41, x42, x43, x44⟩⟩, -, -, -⟩ := lX HNB.out
  have hnA : a.b ∉ [a.nB, b.nB] := by simp; exact ⟨ab_n, x13⟩
  have hnB : b.b ∉ [a.nB, b.nB] := by simp; exact ⟨x31.symm, bb_n⟩
  have hXX : X < w4.heap.size := aa HX4.out
  have hwl : w.heap.size <= w4.heap.size := HH4.out.bel.size
  have hXa : a.nB < X := HXA.out _ (aP _ (List.mem_flatMap.2 ⟨a, aF HI.out.2.1, by simp [ItA.blks]⟩))
  have hXb : b.nB < X := HXA.out _ (aP _ (List.mem_flatMap.2 ⟨b, aF HJ.out.2.1, by simp [ItA.blks]⟩))
  have hs1 := HSN.out.1
  have hs2 := HSN.out.2.1
  have HAR := aB HIa.out.si
  have HBR := aB HIb.out.si
  have hb9 : b.nB < w4.heap.size := (dY HIb.out.si rfl).2
  have ha9 : a.nB < w4.heap.size := (dY HIa.out.si rfl).2
  have hab : a.b < w4.heap.size := aa lA
  have hbb : b.b < w4.heap.size := aa lB
  have HST : Hid (∀ W', bz [a.nB, b.nB] w4 W' -> (W'.cell? (aV a.b 7) = some (.slice (some (aV a.nB 0)) it.since.length a.nC) /\ W'.cell? (aV b.b 7) = some (.slice (some (aV b.nB 0)) jt.since.length b.nC) /\ W'.cell? (aV X 1) = some (iV d.time))) := fun W' hc =>
   ⟨aA 7 ((hc.block _ hab hnA).trans lA), aA 7 ((hc.block _ hbb hnB).trans lB), aA 1 ((hc.block _ hXX (by simp; omega)).trans HX4.out)⟩
  have HBC : Hid (∀ W', Below w4.heap.size w4 W' -> bz [a.nB, b.nB] w4 W') := fun W' hb => bz.of_below hb
  have HD0 : Hid (Below w4.heap.size w4 w4.drew) := al (aJ _ _)
  refine wp_region_noPanic ?_
  refine iP 23 (fun w' => w'.cell? (aV a.b 7) = some (.slice (some (aV a.nB 0)) it.since.length a.nC) /\ w'.cell? (aV b.b 7) = some (.slice (some (aV b.nB 0)) jt.since.length b.nC) /\ w'.cell? (aV X 1) = some (iV d.time)) (by kernel_rfl) (HST.out _ (HBC.out _ HD0.out)) (fun hHeld => ?_)
  refine puL 0 ?_
  try simp only [LY]
  refine puL 1 ?_
  try simp only [LY]
  refine puL 2 ?_
  try simp only [LY]
  refine puL 3 ?_
  try simp only [LY]
  refine puL 4 ?_
  try simp only [LY]
  refine puL 5 ?_
  try simp only [LY]
  refine taL 6 ?_
  try simp only [LY]
  refine puL 7 ?_
  try simp only [LY]
  refine taL 8 ?_
  try simp only [LY]
  refine puL 11 ?_
  try simp only [LY]
  refine puL 12 ?_
  try simp only [LY]
  refine puL 13 ?_
  try simp only [LY]
  refine puL 14 ?_
  try simp only [LY]
  refine taL 15 ?_
  try simp only [LY]
  refine puL 16 ?_
  try simp only [LY]
  refine taL 17 ?_
  try simp only [LY]
  refine eJ (rs := [9, 18]) (by kernel_rfl) (by simp) ?_
  refine bH.cons rfl (fun K hK => ?rn1) (bH.cons rfl (fun K hK => ?rn2) bH.nil)
  case rn1 =>
   go_simp
   refine hK.out _ _ (HST.out _ (HBC.out _ (((HD0.out).alloc (HD0.out).size _)))) (fun hHeld => ?_)
   clear hK K
   try simp only [LY]
   refine eJ (rs := [10, 18]) (by kernel_rfl) (by simp) ?_
   refine bH.cons rfl (fun K hK => ?rn3) (bH.cons rfl (fun K hK => ?rn4) bH.nil)
   case rn3 =>
    refine step_append_lies _ (by rfl) (.tmp 63) (.tmp 66) _ (by rfl) w.heap.size 3 i0 _ 1 8 Tryz.underlying46 hi0 hz0 hz1 hz2 rfl (by omega) (.slice (some (aV a.nB 0)) it.since.length a.nC) it.since.length (it.since.map iV) (by rfl) ((HAR.out.drew).alloc _) _ 1 1 [iV d.time] (by rfl) rfl (dC (aC _ _)) (fun u hu => by simp at hu; subst hu; rfl) (by omega) (by unfold maxLen; omega) (by omega) (by first | omega | (simp <;> omega)) _ rfl ?_
    intro g1 d1 v1 own1 hg1 hat1 hlt1
    have HGW := aB hg1
    have HG1 : Hid (jj w.heap.size w4 v1 3 a.nB g1 d1 (it.since.length + 1) (it.since.map iV ++ [iV d.time])) := gZ (((HD0.out).alloc (HD0.out).size _)) own1 hg1 hat1 (by first | omega | (simp <;> omega))
    clear own1 hg1 hat1 hlt1
    refine hK.out _ _ (HST.out _ ((HG1.out).chg.mono (fun x hx => by simp at hx ⊢; exact .inl hx))) (fun hHeld => ?_)
    clear hK K
    try simp only [LY]
    refine reL 18 (fun K hK => ?_)
    go_simp
    refine hK.out _ _ (HST.out _ ((HG1.out.alloc _).chg.mono (fun x hx => by simp at hx ⊢; exact .inl hx))) (fun hHeld => ?_)
    clear hK K
    try simp only [LY]
    refine reL 19 (fun K hK => ?_)
    have hzs := HG1.out.chg.size
    refine step_append_lies _ (by rfl) (.tmp 72) (.tmp 75) _ (by rfl) w.heap.size 3 i0 _ 1 8 Tryz.underlying46 hi0 hz0 hz1 hz2 rfl (by omega) (.slice (some (aV b.nB 0)) jt.since.length b.nC) jt.since.length (jt.since.map iV) (by rfl) ((cx HBR.out HG1.out.chg (fun x hx => by cases hx; simpa using x33.symm)).alloc _) _ 1 1 [iV d.time] (by rfl) rfl (dC (aC _ _)) (fun u hu => by simp at hu; subst hu; rfl) (by omega) (by unfold maxLen; omega) (by omega) (by first | omega | (simp <;> omega)) _ rfl ?_
    intro g2 d2 v2 own2 hg2 hat2 hlt2
    have HG2 : Hid (pc w.heap.size w4 v2 3 a.nB b.nB g1 d1 g2 d2 (it.since.length + 1) (jt.since.length + 1) (it.since.map iV ++ [iV d.time]) (jt.since.map iV ++ [iV d.time])) := gY (HG1.out.alloc _) x33 hb9 own2 hg2 hat2 (aH _)
    have hcg := HG2.out.chg
    have f1 : v2.frozen? (aV a.b 7) = false := ac ((hcg.block _ hab hnA).trans lA) 7
    have f2 : v2.frozen? (aV b.b 7) = false := ac ((hcg.block _ hbb hnB).trans lB) 7
    clear own2 hg2 hat2 hlt2 hzs hcg
    refine hK.out _ _ (HST.out _ HG2.out.chg) (fun hHeld => ?_)
    clear hK K
    try simp only [LY]
    refine puL 20 ?_
    try simp only [LY]
    refine puL 21 ?_
    try simp only [LY]
    refine puL 22 ?_
    try simp only [LY]
    refine bZ (by kernel_rfl) rfl (fun K hK => ?_)
    go_simp
    refine hK.out _ _ ?_
    clear hK K
    try simp only [LY]
    refine ta0 24 ?_
    try simp only [LY]
    refine ta0 25 ?_
    try simp only [LY]
    refine ta0 26 ?_
    try simp only [LY]
    refine wpAny_ready (rs := [27]) (by kernel_rfl) (by simp) ?_
    refine AllReady.cons rfl (fun K hK => ?_) AllReady.nil
    go_simp
    refine hK _ _ ?_
    clear hK K
    try simp only [LY]
    refine wpAny_done (by kernel_rfl) ?_ _
    refine NoPanic.normal ?_
    go_wp2_with fail
    go_meet
    exact ⟨_, _, Two.since HIa.out HIb.out HNB.out HG2.out⟩
   case rn4 =>
    go_simp
    refine hK.out _ _ (HST.out _ (HBC.out _ (((((HD0.out).alloc (HD0.out).size _)).alloc (((HD0.out).alloc (HD0.out).size _)).size _)))) (fun hHeld => ?_)
    clear hK K
    try simp only [LY]
    refine reL 10 (fun K hK => ?_)
    refine step_append_lies _ (by rfl) (.tmp 63) (.tmp 66) _ (by rfl) w.heap.size 3 i0 _ 1 8 Tryz.underlying46 hi0 hz0 hz1 hz2 rfl (by omega) (.slice (some (aV a.nB 0)) it.since.length a.nC) it.since.length (it.since.map iV) (by rfl) (((HAR.out.drew).alloc _).alloc _) _ 1 1 [iV d.time] (by rfl) rfl (dC ((aK _ _ _ (by simp)).trans (aC _ _))) (fun u hu => by simp at hu; subst hu; rfl) (by omega) (by unfold maxLen; omega) (by omega) (by first | omega | (simp <;> omega)) _ rfl ?_
    intro g1 d1 v1 own1 hg1 hat1 hlt1
    have HGW := aB hg1
    have HG1 : Hid (jj w.heap.size w4 v1 3 a.nB g1 d1 (it.since.length + 1) (it.since.map iV ++ [iV d.time])) := gZ (((((HD0.out).alloc (HD0.out).size _)).alloc (((HD0.out).alloc (HD0.out).size _)).size _)) own1 hg1 hat1 (by first | omega | (simp <;> omega))
    clear own1 hg1 hat1 hlt1
    refine hK.out _ _ (HST.out _ ((HG1.out).chg.mono (fun x hx => by simp at hx ⊢; exact .inl hx))) (fun hHeld => ?_)
    clear hK K
    try simp only [LY]
    refine reL 19 (fun K hK => ?_)
    have hzs := HG1.out.chg.size
    refine step_append_lies _ (by rfl) (.tmp 72) (.tmp 75) _ (by rfl) w.heap.size 3 i0 _ 1 8 Tryz.underlying46 hi0 hz0 hz1 hz2 rfl (by omega) (.slice (some (aV b.nB 0)) jt.since.length b.nC) jt.since.length (jt.since.map iV) (by rfl) (cx HBR.out HG1.out.chg (fun x hx => by cases hx; simpa using x33.symm)) _ 1 1 [iV d.time] (by rfl) rfl (dC ((HGW.out.block _ (by first | omega | (simp <;> omega)) (fun e => absurd (Option.some.inj e) (by first | omega | (simp <;> omega)))).trans (by have h9 := aC (w4.drew.alloc (.cells #[iV d.time] 3)) (.cells #[iV d.time] 3); rw [aT] at h9; exact h9))) (fun u hu => by simp at hu; subst hu; rfl) (by omega) (by unfold maxLen; omega) (by omega) (by first | omega | (simp <;> omega)) _ rfl ?_
    intro g2 d2 v2 own2 hg2 hat2 hlt2
    have HG2 : Hid (pc w.heap.size w4 v2 3 a.nB b.nB g1 d1 g2 d2 (it.since.length + 1) (jt.since.length + 1) (it.since.map iV ++ [iV d.time]) (jt.since.map iV ++ [iV d.time])) := gY HG1.out x33 hb9 own2 hg2 hat2 (aH _)
    have hcg := HG2.out.chg
    have f1 : v2.frozen? (aV a.b 7) = false := ac ((hcg.block _ hab hnA).trans lA) 7
    have f2 : v2.frozen? (aV b.b 7) = false := ac ((hcg.block _ hbb hnB).trans lB) 7
    clear own2 hg2 hat2 hlt2 hzs hcg
    refine hK.out _ _ (HST.out _ HG2.out.chg) (fun hHeld => ?_)
    clear hK K
    try simp only [LY]
    refine puL 20 ?_
    try simp only [LY]
    refine puL 21 ?_
    try simp only [LY]
    refine puL 22 ?_
    try simp only [LY]
    refine bZ (by kernel_rfl) rfl (fun K hK => ?_)
    go_simp
    refine hK.out _ _ ?_
    clear hK K
    try simp only [LY]
    refine ta0 24 ?_
    try simp only [LY]
    refine ta0 25 ?_
    try simp only [LY]
    refine ta0 26 ?_
    try simp only [LY]
    refine wpAny_ready (rs := [27]) (by kernel_rfl) (by simp) ?_
    refine AllReady.cons rfl (fun K hK => ?_) AllReady.nil
    go_simp
    refine hK _ _ ?_
    clear hK K
    try simp only [LY]
    refine wpAny_done (by kernel_rfl) ?_ _
    refine NoPanic.normal ?_
    go_wp2_with fail
    go_meet
    exact ⟨_, _, Two.since HIa.out HIb.out HNB.out HG2.out⟩
  case rn2 =>
   go_simp
   refine hK.out _ _ (HST.out _ (HBC.out _ (((HD0.out).alloc (HD0.out).size _)))) (fun hHeld => ?_)
   clear hK K
   try simp only [LY]
   refine reL 9 (fun K hK => ?_)
   go_simp
   refine hK.out _ _ (HST.out _ (HBC.out _ (((((HD0.out).alloc (HD0.out).size _)).alloc (((HD0.out).alloc (HD0.out).size _)).size _)))) (fun hHeld => ?_)
   clear hK K
   try simp only [LY]
   refine reL 10 (fun K hK => ?_)
   refine step_append_lies _ (by rfl) (.tmp 63) (.tmp 66) _ (by rfl) w.heap.size 3 i0 _ 1 8 Tryz.underlying46 hi0 hz0 hz1 hz2 rfl (by omega) (.slice (some (aV a.nB 0)) it.since.length a.nC) it.since.length (it.since.map iV) (by rfl) (((HAR.out.drew).alloc _).alloc _) _ 1 1 [iV d.time] (by rfl) rfl (dC (by have h9 := aC (w4.drew.alloc (.cells #[iV d.time] 3)) (.cells #[iV d.time] 3); rw [aT] at h9; exact h9)) (fun u hu => by simp at hu; subst hu; rfl) (by omega) (by unfold maxLen; omega) (by omega) (by first | omega | (simp <;> omega)) _ rfl ?_
   intro g1 d1 v1 own1 hg1 hat1 hlt1
   have HGW := aB hg1
   have HG1 : Hid (jj w.heap.size w4 v1 3 a.nB g1 d1 (it.since.length + 1) (it.since.map iV ++ [iV d.time])) := gZ (((((HD0.out).alloc (HD0.out).size _)).alloc (((HD0.out).alloc (HD0.out).size _)).size _)) own1 hg1 hat1 (by first | omega | (simp <;> omega))
   clear own1 hg1 hat1 hlt1
   refine hK.out _ _ (HST.out _ ((HG1.out).chg.mono (fun x hx => by simp at hx ⊢; exact .inl hx))) (fun hHeld => ?_)
   clear hK K
   try simp only [LY]
   refine reL 19 (fun K hK => ?_)
   have hzs := HG1.out.chg.size
   refine step_append_lies _ (by rfl) (.tmp 72) (.tmp 75) _ (by rfl) w.heap.size 3 i0 _ 1 8 Tryz.underlying46 hi0 hz0 hz1 hz2 rfl (by omega) (.slice (some (aV b.nB 0)) jt.since.length b.nC) jt.since.length (jt.since.map iV) (by rfl) (cx HBR.out HG1.out.chg (fun x hx => by cases hx; simpa using x33.symm)) _ 1 1 [iV d.time] (by rfl) rfl (dC ((HGW.out.block _ (by first | omega | (simp <;> omega)) (fun e => absurd (Option.some.inj e) (by first | omega | (simp <;> omega)))).trans ((aK _ _ _ (by simp)).trans (aC _ _)))) (fun u hu => by simp at hu; subst hu; rfl) (by omega) (by unfold maxLen; omega) (by omega) (by first | omega | (simp <;> omega)) _ rfl ?_
   intro g2 d2 v2 own2 hg2 hat2 hlt2
   have HG2 : Hid (pc w.heap.size w4 v2 3 a.nB b.nB g1 d1 g2 d2 (it.since.length + 1) (jt.since.length + 1) (it.since.map iV ++ [iV d.time]) (jt.since.map iV ++ [iV d.time])) := gY HG1.out x33 hb9 own2 hg2 hat2 (aH _)
   have hcg := HG2.out.chg
   have f1 : v2.frozen? (aV a.b 7) = false := ac ((hcg.block _ hab hnA).trans lA) 7
   have f2 : v2.frozen? (aV b.b 7) = false := ac ((hcg.block _ hbb hnB).trans lB) 7
   clear own2 hg2 hat2 hlt2 hzs hcg
   refine hK.out _ _ (HST.out _ HG2.out.chg) (fun hHeld => ?_)
   clear hK K
   try simp only [LY]
   refine puL 20 ?_
   try simp only [LY]
   refine puL 21 ?_
   try simp only [LY]
   refine puL 22 ?_
   try simp only [LY]
   refine bZ (by kernel_rfl) rfl (fun K hK => ?_)
   go_simp
   refine hK.out _ _ ?_
   clear hK K
   try simp only [LY]
   refine ta0 24 ?_
   try simp only [LY]
   refine ta0 25 ?_
   try simp only [LY]
   refine ta0 26 ?_
   try simp only [LY]
   refine wpAny_ready (rs := [27]) (by kernel_rfl) (by simp) ?_
   refine AllReady.cons rfl (fun K hK => ?_) AllReady.nil
   go_simp
   refine hK _ _ ?_
   clear hK K
   try simp only [LY]
   refine wpAny_done (by kernel_rfl) ?_ _
   refine NoPanic.normal ?_
   go_wp2_with fail
   go_meet
   exact ⟨_, _, Two.since HIa.out HIb.out HNB.out HG2.out⟩
 case rest =>
 obtain ⟨a', b', hT⟩ := hcut
 have HT1 := aB hT
 have HSA := aB hT.sa
 have HSB := aB hT.sb
 clear hT
 go_upto_region 5 with fail
 go_cut [] from 83 to 112 (fun wy => ∃ (a'' b'' : ItA), Two w.heap.size w4 wy a b a'' b'' (bh it (bq jt) d.time) (bh jt (bq it) d.time))
 case first =>
  obtain ⟨lv, -, -, lA⟩ := HT1.out.ina.cells
  obtain ⟨mv, -, -, lB⟩ := HT1.out.inb.cells
  rw [HSA.out] at lA
  rw [HSB.out] at lB
  obtain ⟨⟨ab_s, ab_n, ab_l, as_n, as_l, an_l⟩, ⟨bb_s, bb_n, bb_l, bs_n, bs_l, bn_l⟩, ⟨⟨x11, x12, x13, x14⟩, ⟨x21, x22, x23, x24⟩, ⟨x31, x32, x34, x3n⟩, ⟨x41, x42, x43, x33⟩⟩, -, -, -⟩ := lX HT1.out.nodup
  have hnA : a.b ∉ [a'.lB, b'.lB] := by
   rw [<- HSA.out]
   simp
   exact ⟨ab_l, x14⟩
  have hnB : b.b ∉ [a'.lB, b'.lB] := by
   rw [<- HSB.out]
   simp
   exact ⟨x41.symm, bb_l⟩
  have x11' : a.b ≠ b.b := by rw [<- HSA.out, <- HSB.out]; exact x11
  have hwl : w.heap.size <= wc.heap.size := aG HH4.out.bel.size HT1.out.chg.size
  have hs1 := HSN.out.2.2.1
  have hs2 := HSN.out.2.2.2
  have HAR := aB HT1.out.ina.la
  have HBR := aB HT1.out.inb.la
  have hb9 : b'.lB < wc.heap.size := (dY HT1.out.inb.la rfl).2
  have ha9 : a'.lB < wc.heap.size := (dY HT1.out.ina.la rfl).2
  have hab : a.b < wc.heap.size := aa lA
  have hbb : b.b < wc.heap.size := aa lB
  have HST : Hid (∀ W', bz [a'.lB, b'.lB] wc W' -> (W'.cell? (aV a.b 8) = some (.slice (some (aV a'.lB 0)) it.labs.length a'.lC) /\ W'.cell? (aV b.b 8) = some (.slice (some (aV b'.lB 0)) jt.labs.length b'.lC))) := fun W' hc =>
   ⟨aA 8 ((hc.block _ hab hnA).trans lA), aA 8 ((hc.block _ hbb hnB).trans lB)⟩
  have HBC : Hid (∀ W', Below wc.heap.size wc W' -> bz [a'.lB, b'.lB] wc W') := fun W' hb => bz.of_below hb
  have HD0 : Hid (Below wc.heap.size wc wc.drew) := al (aJ _ _)
  refine wp_region_noPanic ?_
  refine iP 21 (fun w' => w'.cell? (aV a.b 8) = some (.slice (some (aV a'.lB 0)) it.labs.length a'.lC) /\ w'.cell? (aV b.b 8) = some (.slice (some (aV b'.lB 0)) jt.labs.length b'.lC)) (by kernel_rfl) (HST.out _ (HBC.out _ HD0.out)) (fun hHeld => ?_)
  refine puL 0 ?_
  try simp only [LY]
  refine puL 1 ?_
  try simp only [LY]
  refine puL 2 ?_
  try simp only [LY]
  refine puL 3 ?_
  try simp only [LY]
  refine puL 4 ?_
  try simp only [LY]
  refine puL 5 ?_
  try simp only [LY]
  refine taL 6 ?_
  try simp only [LY]
  refine puL 7 ?_
  try simp only [LY]
  refine puL 10 ?_
  try simp only [LY]
  refine puL 11 ?_
  try simp only [LY]
  refine puL 12 ?_
  try simp only [LY]
  refine puL 13 ?_
  try simp only [LY]
  refine taL 14 ?_
  try simp only [LY]
  refine puL 15 ?_
  try simp only [LY]
  refine eJ (rs := [8, 16]) (by kernel_rfl) (by simp) ?_
  refine bH.cons rfl (fun K hK => ?rl1) (bH.cons rfl (fun K hK => ?rl2) bH.nil)
  case rl1 =>
   go_simp
   refine hK.out _ _ (HST.out _ (HBC.out _ (((HD0.out).alloc (HD0.out).size _)))) (fun hHeld => ?_)
   clear hK K
   try simp only [LY]
   refine eJ (rs := [9, 16]) (by kernel_rfl) (by simp) ?_
   refine bH.cons rfl (fun K hK => ?rl3) (bH.cons rfl (fun K hK => ?rl4) bH.nil)
   case rl3 =>
    refine step_append_lies _ (by rfl) (.tmp 89) (.tmp 91) _ (by rfl) w.heap.size 9 s0 _ 1 16 Tryz.underlying23 hs0 hsa hsb hsc rfl (by omega) (.slice (some (aV a'.lB 0)) it.labs.length a'.lC) it.labs.length (it.labs.map sV) (by rfl) ((HAR.out.drew).alloc _) _ 1 1 [sV (bq jt)] (by rfl) rfl (dC (aC _ _)) (fun u hu => by simp at hu; subst hu; rfl) (by omega) (by unfold maxLen; omega) (by omega) (by first | omega | (simp <;> omega)) _ rfl ?_
    intro g1 d1 v1 own1 hg1 hat1 hlt1
    have HGW := aB hg1
    have HG1 : Hid (jj w.heap.size wc v1 9 a'.lB g1 d1 (it.labs.length + 1) (it.labs.map sV ++ [sV (bq jt)])) := gZ (((HD0.out).alloc (HD0.out).size _)) own1 hg1 hat1 (by first | omega | (simp <;> omega))
    clear own1 hg1 hat1 hlt1
    refine hK.out _ _ (HST.out _ ((HG1.out).chg.mono (fun x hx => by simp at hx ⊢; exact .inl hx))) (fun hHeld => ?_)
    clear hK K
    try simp only [LY]
    refine reL 16 (fun K hK => ?_)
    go_simp
    refine hK.out _ _ (HST.out _ ((HG1.out.alloc _).chg.mono (fun x hx => by simp at hx ⊢; exact .inl hx))) (fun hHeld => ?_)
    clear hK K
    try simp only [LY]
    refine reL 17 (fun K hK => ?_)
    have hzs := HG1.out.chg.size
    refine step_append_lies _ (by rfl) (.tmp 97) (.tmp 99) _ (by rfl) w.heap.size 9 s0 _ 1 16 Tryz.underlying23 hs0 hsa hsb hsc rfl (by omega) (.slice (some (aV b'.lB 0)) jt.labs.length b'.lC) jt.labs.length (jt.labs.map sV) (by rfl) ((cx HBR.out HG1.out.chg (fun x hx => by cases hx; simpa using x33.symm)).alloc _) _ 1 1 [sV (bq it)] (by rfl) rfl (dC (aC _ _)) (fun u hu => by simp at hu; subst hu; rfl) (by omega) (by unfold maxLen; omega) (by omega) (by first | omega | (simp <;> omega)) _ rfl ?_
    intro g2 d2 v2 own2 hg2 hat2 hlt2
    have HG2 : Hid (pc w.heap.size wc v2 9 a'.lB b'.lB g1 d1 g2 d2 (it.labs.length + 1) (jt.labs.length + 1) (it.labs.map sV ++ [sV (bq jt)]) (jt.labs.map sV ++ [sV (bq it)])) := gY (HG1.out.alloc _) x33 hb9 own2 hg2 hat2 (aH _)
    have hcg := HG2.out.chg
    have f1 : v2.frozen? (aV a.b 8) = false := ac ((hcg.block _ hab hnA).trans lA) 8
    have f2 : v2.frozen? (aV b.b 8) = false := ac ((hcg.block _ hbb hnB).trans lB) 8
    clear own2 hg2 hat2 hlt2 hzs hcg
    refine hK.out _ _ (HST.out _ HG2.out.chg) (fun hHeld => ?_)
    clear hK K
    try simp only [LY]
    refine puL 18 ?_
    try simp only [LY]
    refine puL 19 ?_
    try simp only [LY]
    refine puL 20 ?_
    try simp only [LY]
    refine bZ (by kernel_rfl) rfl (fun K hK => ?_)
    go_simp
    refine hK.out _ _ ?_
    clear hK K
    try simp only [LY]
    refine ta0 22 ?_
    try simp only [LY]
    refine ta0 23 ?_
    try simp only [LY]
    refine ta0 24 ?_
    try simp only [LY]
    refine wpAny_ready (rs := [25]) (by kernel_rfl) (by simp) ?_
    refine AllReady.cons rfl (fun K hK => ?_) AllReady.nil
    go_simp
    refine hK _ _ ?_
    clear hK K
    try simp only [LY]
    refine wpAny_done (by kernel_rfl) ?_ _
    refine NoPanic.normal ?_
    go_wp2_with fail
    go_meet
    have h9 := Two.labs HT1.out.ina HT1.out.inb HT1.out.nodup HG2.out
    rw [HSA.out, HSB.out] at h9
    exact ⟨_, _, HT1.out.trans h9⟩
   case rl4 =>
    go_simp
    refine hK.out _ _ (HST.out _ (HBC.out _ (((((HD0.out).alloc (HD0.out).size _)).alloc (((HD0.out).alloc (HD0.out).size _)).size _)))) (fun hHeld => ?_)
    clear hK K
    try simp only [LY]
    refine reL 9 (fun K hK => ?_)
    refine step_append_lies _ (by rfl) (.tmp 89) (.tmp 91) _ (by rfl) w.heap.size 9 s0 _ 1 16 Tryz.underlying23 hs0 hsa hsb hsc rfl (by omega) (.slice (some (aV a'.lB 0)) it.labs.length a'.lC) it.labs.length (it.labs.map sV) (by rfl) (((HAR.out.drew).alloc _).alloc _) _ 1 1 [sV (bq jt)] (by rfl) rfl (dC ((aK _ _ _ (by simp)).trans (aC _ _))) (fun u hu => by simp at hu; subst hu; rfl) (by omega) (by unfold maxLen; omega) (by omega) (by first | omega | (simp <;> omega)) _ rfl ?_
    intro g1 d1 v1 own1 hg1 hat1 hlt1
    have HGW := aB hg1
    have HG1 : Hid (jj w.heap.size wc v1 9 a'.lB g1 d1 (it.labs.length + 1) (it.labs.map sV ++ [sV (bq jt)])) := gZ (((((HD0.out).alloc (HD0.out).size _)).alloc (((HD0.out).alloc (HD0.out).size _)).size _)) own1 hg1 hat1 (by first | omega | (simp <;> omega))
    clear own1 hg1 hat1 hlt1
    refine hK.out _ _ (HST.out _ ((HG1.out).chg.mono (fun x hx => by simp at hx ⊢; exact .inl hx))) (fun hHeld => ?_)
    clear hK K
    try simp only [LY]
    refine reL 17 (fun K hK => ?_)
    have hzs := HG1.out.chg.size
    refine step_append_lies _ (by rfl) (.tmp 97) (.tmp 99) _ (by rfl) w.heap.size 9 s0 _ 1 16 Tryz.underlying23 hs0 hsa hsb hsc rfl (by omega) (.slice (some (aV b'.lB 0)) jt.labs.length b'.lC) jt.labs.length (jt.labs.map sV) (by rfl) (cx HBR.out HG1.out.chg (fun x hx => by cases hx; simpa using x33.symm)) _ 1 1 [sV (bq it)] (by rfl) rfl (dC ((HGW.out.block _ (by first | omega | (simp <;> omega)) (fun e => absurd (Option.some.inj e) (by first | omega | (simp <;> omega)))).trans (by have h9 := aC (wc.drew.alloc (.cells #[sV (bq jt)] 9)) (.cells #[sV (bq it)] 9); rw [aT] at h9; exact h9))) (fun u hu => by simp at hu; subst hu; rfl) (by omega) (by unfold maxLen; omega) (by omega) (by first | omega | (simp <;> omega)) _ rfl ?_
    intro g2 d2 v2 own2 hg2 hat2 hlt2
    have HG2 : Hid (pc w.heap.size wc v2 9 a'.lB b'.lB g1 d1 g2 d2 (it.labs.length + 1) (jt.labs.length + 1) (it.labs.map sV ++ [sV (bq jt)]) (jt.labs.map sV ++ [sV (bq it)])) := gY HG1.out x33 hb9 own2 hg2 hat2 (aH _)
    have hcg := HG2.out.chg
    have f1 : v2.frozen? (aV a.b 8) = false := ac ((hcg.block _ hab hnA).trans lA) 8
    have f2 : v2.frozen? (aV b.b 8) = false := ac ((hcg.block _ hbb hnB).trans lB) 8
    clear own2 hg2 hat2 hlt2 hzs hcg
    refine hK.out _ _ (HST.out _ HG2.out.chg) (fun hHeld => ?_)
    clear hK K
    try simp only [LY]
    refine puL 18 ?_
    try simp only [LY]
    refine puL 19 ?_
    try simp only [LY]
    refine puL 20 ?_
    try simp only [LY]
    refine bZ (by kernel_rfl) rfl (fun K hK => ?_)
    go_simp
    refine hK.out _ _ ?_
    clear hK K
    try simp only [LY]
    refine ta0 22 ?_
    try simp only [LY]
    refine ta0 23 ?_
    try simp only [LY]
    refine ta0 24 ?_
    try simp only [LY]
    refine wpAny_ready (rs := [25]) (by kernel_rfl) (by simp) ?_
    refine AllReady.cons rfl (fun K hK => ?_) AllReady.nil
    go_simp
    refine hK _ _ ?_
    clear hK K
    try simp only [LY]
    refine wpAny_done (by kernel_rfl) ?_ _
    refine NoPanic.normal ?_
    go_wp2_with fail
    go_meet
    have h9 := Two.labs HT1.out.ina HT1.out.inb HT1.out.nodup HG2.out
    rw [HSA.out, HSB.out] at h9
    exact ⟨_, _, HT1.out.trans h9⟩
  case rl2 =>
   go_simp
   refine hK.out _ _ (HST.out _ (HBC.out _ (((HD0.out).alloc (HD0.out).size _)))) (fun hHeld => ?_)
   clear hK K
   try simp only [LY]
   refine reL 8 (fun K hK => ?_)
   go_simp
   refine hK.out _ _ (HST.out _ (HBC.out _ (((((HD0.out).alloc (HD0.out).size _)).alloc (((HD0.out).alloc (HD0.out).size _)).size _)))) (fun hHeld => ?_)
   clear hK K
   try simp only [LY]
   refine reL 9 (fun K hK => ?_)
   refine step_append_lies _ (by rfl) (.tmp 89) (.tmp 91) _ (by rfl) w.heap.size 9 s0 _ 1 16 Tryz.underlying23 hs0 hsa hsb hsc rfl (by omega) (.slice (some (aV a'.lB 0)) it.labs.length a'.lC) it.labs.length (it.labs.map sV) (by rfl) (((HAR.out.drew).alloc _).alloc _) _ 1 1 [sV (bq jt)] (by rfl) rfl (dC (by have h9 := aC (wc.drew.alloc (.cells #[sV (bq it)] 9)) (.cells #[sV (bq jt)] 9); rw [aT] at h9; exact h9)) (fun u hu => by simp at hu; subst hu; rfl) (by omega) (by unfold maxLen; omega) (by omega) (by first | omega | (simp <;> omega)) _ rfl ?_
   intro g1 d1 v1 own1 hg1 hat1 hlt1
   have HGW := aB hg1
   have HG1 : Hid (jj w.heap.size wc v1 9 a'.lB g1 d1 (it.labs.length + 1) (it.labs.map sV ++ [sV (bq jt)])) := gZ (((((HD0.out).alloc (HD0.out).size _)).alloc (((HD0.out).alloc (HD0.out).size _)).size _)) own1 hg1 hat1 (by first | omega | (simp <;> omega))
   clear own1 hg1 hat1 hlt1
   refine hK.out _ _ (HST.out _ ((HG1.out).chg.mono (fun x hx => by simp at hx ⊢; exact .inl hx))) (fun hHeld => ?_)
   clear hK K
   try simp only [LY]
   refine reL 17 (fun K hK => ?_)
   have hzs := HG1.out.chg.size
   refine step_append_lies _ (by rfl) (.tmp 97) (.tmp 99) _ (by rfl) w.heap.size 9 s0 _ 1 16 Tryz.underlying23 hs0 hsa hsb hsc rfl (by omega) (.slice (some (aV b'.lB 0)) jt.labs.length b'.lC) jt.labs.length (jt.labs.map sV) (by rfl) (cx HBR.out HG1.out.chg (fun x hx => by cases hx; simpa using x33.symm)) _ 1 1 [sV (bq it)] (by rfl) rfl (dC ((HGW.out.block _ (by first | omega | (simp <;> omega)) (fun e => absurd (Option.some.inj e) (by first | omega | (simp <;> omega)))).trans ((aK _ _ _ (by simp)).trans (aC _ _)))) (fun u hu => by simp at hu; subst hu; rfl) (by omega) (by unfold maxLen; omega) (by omega) (by first | omega | (simp <;> omega)) _ rfl ?_
   intro g2 d2 v2 own2 hg2 hat2 hlt2
   have HG2 : Hid (pc w.heap.size wc v2 9 a'.lB b'.lB g1 d1 g2 d2 (it.labs.length + 1) (jt.labs.length + 1) (it.labs.map sV ++ [sV (bq jt)]) (jt.labs.map sV ++ [sV (bq it)])) := gY HG1.out x33 hb9 own2 hg2 hat2 (aH _)
   have hcg := HG2.out.chg
   have f1 : v2.frozen? (aV a.b 8) = false := ac ((hcg.block _ hab hnA).trans lA) 8
   have f2 : v2.frozen? (aV b.b 8) = false := ac ((hcg.block _ hbb hnB).trans lB) 8
   clear own2 hg2 hat2 hlt2 hzs hcg
   refine hK.out _ _ (HST.out _ HG2.out.chg) (fun hHeld => ?_)
   clear hK K
   try simp only [LY]
   refine puL 18 ?_
   try simp only [LY]
   refine puL 19 ?_
   try simp only [LY]
   refine puL 20 ?_
   try simp only [LY]
   refine bZ (by kernel_rfl) rfl (fun K hK => ?_)
   go_simp
   refine hK.out _ _ ?_
   clear hK K
   try simp only [LY]
   refine ta0 22 ?_
   try simp only [LY]
   refine ta0 23 ?_
   try simp only [LY]
   refine ta0 24 ?_
   try simp only [LY]
   refine wpAny_ready (rs := [25]) (by kernel_rfl) (by simp) ?_
   refine AllReady.cons rfl (fun K hK => ?_) AllReady.nil
   go_simp
   refine hK _ _ ?_
   clear hK K
   try simp only [LY]
   refine wpAny_done (by kernel_rfl) ?_ _
   refine NoPanic.normal ?_
   go_wp2_with fail
   go_meet
   have h9 := Two.labs HT1.out.ina HT1.out.inb HT1.out.nodup HG2.out
   rw [HSA.out, HSB.out] at h9
   exact ⟨_, _, HT1.out.trans h9⟩
 case rest =>
 obtain ⟨a2, b2, hT2⟩ := hcut
 have HD5 := aB (HH4.out.upd2 HI.out.1 HI.out.2.1 HJ.out.1 HJ.out.2.1 HPQ.out hT2 rfl rfl)
 clear HT1 HSA HSB
 have hdi := HD.out it (aF HI.out.1)
 have hdj := HD.out jt (aF HJ.out.1)
 have hps : ((h.items.set p (bh it (bq jt) d.time)).set q (bh jt (bq it) d.time)).map (·.post) = h.items.map (·.post) :=
  (fS (items := h.items.set p (bh it (bq jt) d.time)) (k := q) (it := jt) (it' := bh jt (bq it) d.time) (by rw [List.getElem?_set, if_neg HPQ.out]; exact HJ.out.1) rfl).trans (fS (items := h.items) (k := p) (it := it) (it' := bh it (bq jt) d.time) HI.out.1 rfl)
 obtain ⟨dA, tA⟩ := jl.relab (h' := { h with items := (h.items.set p (bh it (bq jt) d.time)).set q (bh jt (bq it) d.time) }) hdi hdj hps (HBB.out it (aF HI.out.1)) HT.out
 have gA : ((h.items.set p (bh it (bq jt) d.time)).set q (bh jt (bq it) d.time))[p]? = some (bh it (bq jt) d.time) := by
  rw [List.getElem?_set, if_neg (fun e => HPQ.out e.symm), List.getElem?_set, if_pos rfl, if_pos (aE.1 HI.out.1).1]
 have gB : ((A.its.set p a2).set q b2)[p]? = some a2 := by
  rw [List.getElem?_set, if_neg (fun e => HPQ.out e.symm), List.getElem?_set, if_pos rfl, if_pos (aE.1 HI.out.2.1).1]
 have HCA : Hid (Calls Tryz.prog 101 #[.pointer (some (aV A.hb 0)), .pointer (some (aV a2.b 0))] wc fun e W'' => e = .returned (.tuple #[]) /\ WdH w W'' n nx nxA nxC { h with items := (h.items.set p (aY n nx h.canc (bQ h.items (bq jt)) (bh it (bq jt) d.time))).set q (bh jt (bq it) d.time) } { A with its := (A.its.set p a2).set q b2 }) := by
  refine (gq w wc n nx nxA nxC _ _ p _ a2 hS HF.out HD5.out gA gB dA).mono ?_
  rintro e W'' ⟨rfl, hs⟩
  refine ⟨rfl, ?_⟩
  have h6 := HD5.out.upd gA gB hs rfl
  rw [cO gB] at h6
  dsimp only at h6
  rw [tA, List.set_comm _ _ (fun e => HPQ.out e.symm), List.set_set] at h6
  exact h6
 have HQ : Hid (a2.b = a.b /\ b2.b = b.b) := ⟨hT2.sa, hT2.sb⟩
 clear dA tA gA gB hdi hdj hps hT2
 rw [HQ.out.1] at HCA
 go_wp2_with fail
 refine HCA.out.mono ?_
 rintro e w6 ⟨rfl, hw⟩
 have HD6 := aB hw
 clear hw HCA HD5
 have hdi := HD.out it (aF HI.out.1)
 have hdj := HD.out jt (aF HJ.out.1)
 have hps : ((h.items.set p (aY n nx h.canc (bQ h.items (bq jt)) (bh it (bq jt) d.time))).set q (bh jt (bq it) d.time)).map (·.post) = h.items.map (·.post) :=
  (fS (items := h.items.set p (aY n nx h.canc (bQ h.items (bq jt)) (bh it (bq jt) d.time))) (k := q) (it := jt) (it' := bh jt (bq it) d.time) (by rw [List.getElem?_set, if_neg HPQ.out]; exact HJ.out.1) rfl).trans (fS (items := h.items) (k := p) (it := it) (it' := aY n nx h.canc (bQ h.items (bq jt)) (bh it (bq jt) d.time)) HI.out.1 rfl)
 obtain ⟨dB, tB⟩ := jl.relab (h' := { h with items := (h.items.set p (aY n nx h.canc (bQ h.items (bq jt)) (bh it (bq jt) d.time))).set q (bh jt (bq it) d.time) }) hdj hdi hps (HBB.out jt (aF HJ.out.1)) HT.out
 have gA : ((h.items.set p (aY n nx h.canc (bQ h.items (bq jt)) (bh it (bq jt) d.time))).set q (bh jt (bq it) d.time))[q]? = some (bh jt (bq it) d.time) := by
  rw [List.getElem?_set, if_pos rfl, if_pos (by rw [List.length_set]; exact (aE.1 HJ.out.1).1)]
 have gB : ((A.its.set p a2).set q b2)[q]? = some b2 := by
  rw [List.getElem?_set, if_pos rfl, if_pos (by rw [List.length_set]; exact (aE.1 HJ.out.2.1).1)]
 have HCB : Hid (Calls Tryz.prog 101 #[.pointer (some (aV A.hb 0)), .pointer (some (aV b2.b 0))] w6 fun e W'' => e = .returned (.tuple #[]) /\ ∃ A', WdH w W'' n nx nxA nxC (dR n nx h d) A' /\ A'.core = A.core) := by
  refine (gq w w6 n nx nxA nxC _ _ q _ b2 hS HF.out HD6.out gA gB dB).mono ?_
  rintro e W'' ⟨rfl, hs⟩
  refine ⟨rfl, { A with its := (A.its.set p a2).set q b2 }, ?_, rfl⟩
  have h6 := HD6.out.upd gA gB hs rfl
  rw [cO gB] at h6
  dsimp only at h6
  rw [tB, List.set_set] at h6
  rw [HAC.out, HM.out]
  exact h6
 clear dB tB gA gB hdi hdj hps
 rw [HQ.out.2] at HCB
 go_wp2_with fail
 refine HCB.out.mono ?_
 rintro e w7 ⟨rfl, hw⟩
 have HWW := aB hw
 clear hw HCB HD6
 go_wp2_with fail
 exact bodyPost_end (results_none rfl _ _ _) rfl ⟨rfl, HWW.out⟩
end Go.Proofs.YtpeaiphdkgifaaaGreatDoor
