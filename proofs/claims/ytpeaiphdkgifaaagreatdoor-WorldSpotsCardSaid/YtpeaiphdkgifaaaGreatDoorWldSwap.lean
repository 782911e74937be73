/-
  The walk over swap.
-/
import Derived.Test.YtpeaiphdkgifaaaGreatDoorWbe
import Derived.Test.YtpeaiphdkgifaaaGreatDoorWat
import Derived.StillTailTactics
namespace Go.Proofs.YtpeaiphdkgifaaaGreatDoor
open Go.RowKit
set_option maxHeartbeats 20000000
set_option maxRecDepth 100000
theorem last_q (base : Nat) (it : Itm) (a : ItA) (w : World) (h : ItIn base w it a) (h1 : 1 <= it.stops.length) (h2 : it.stops.length <= 100) :
  Calls Tryz.prog 100 #[.pointer (some ⟨a.b, 0, none⟩)] w fun e w' => e = .returned (.pointer (some ⟨a.sB, (it.stops.length - 1) * 4, none⟩)) /\ ∃ m, w' = w.drewN m := by
 obtain ⟨lv, -, -, hc⟩ := h.cell
 have c5 : w.cell? ⟨a.b, 5, none⟩ = some (.slice (some ⟨a.sB, 0, none⟩) it.stops.length a.sC) := hc 5 _ rfl
 clear h hc
 have e0 : (0 : Int) <= (it.stops.length : Int) - 1 := by omega
 have e1 : (it.stops.length : Int) - 1 < (it.stops.length : Int) := by omega
 have e2 : IntKind.i64.wrap ((it.stops.length : Int) - 1) = (it.stops.length : Int) - 1 := IntWalk.i64_in _ (by omega)
 have e3 : ((it.stops.length : Int) - 1).toNat = it.stops.length - 1 := by omega
 go_enter Tryz.func100, Tryz.ntmps100
 go_upto_region 1 with fail
 go_quiet (fail)
 go_wp2
 go_ret
 exact ⟨rfl, nq, rfl⟩
structure SwI (base : Nat) (W : World) (it : Itm) (a : ItA) : Prop where
 in_ : ItIn base W it a
 st : 1 <= it.stops.length /\ it.stops.length <= 100
 la : it.labs ≠ [] /\ it.labs.length <= 100000
 si : it.since.length <= 100000
theorem carr_relab (it : Itm) (l : List UInt8) (t : Int) : carr (relabI it l t) = l := by unfold carr relabI; simp [List.getLastD_eq_getLast?]
theorem sin_relab (it : Itm) (l : List UInt8) (t : Int) : sinL (relabI it l t) = t := by unfold sinL relabI; simp [List.getLastD_eq_getLast?]
theorem DecW.relab {n : Net} {h h' : Hst} {it jt : Itm} {t : Int} (hi : DecW n h it) (hj : DecW n h jt) (hp : h'.items.map (·.post) = h.items.map (·.post)) (hb : it.labs.length <= 1000 /\ it.since.length <= 1000) (ht : 0 <= t /\ t <= 1000000) : DecW n h' (relabI it (carr jt) t) /\ toOf h'.items (relabI it (carr jt) t) = toLab h.items (carr jt) := by
 have hto : toOf h'.items (relabI it (carr jt) t) = toLab h.items (carr jt) := by
  unfold toOf
  rw [carr_relab]
  exact toLab_posts hp _
 refine ⟨⟨hi.st, hi.of, hi.ar, ⟨by unfold relabI; simp, by unfold relabI; simp; omega⟩, ⟨by unfold relabI; simp, by unfold relabI; simp; omega⟩, by rw [sin_relab]; exact ht, ?_, by rw [hto]; exact hj.ds, hi.ho⟩, hto⟩
 rw [carr_relab]
 exact ⟨hj.ca.1, lab_posts hp hj.ca.2⟩
theorem swap_any (w W : World) (n : Net) (nx : List NsC) (nxA : Option Addr) (nxC : Nat) (h : Hst) (A : HsA) (d : Ded) (hS : Sound n) (hF : Formed n nx) (H : WdH w W n nx nxA nxC h A) (hD : ∀ it ∈ h.items, DecW n h it) (hB : ∀ it ∈ h.items, it.labs.length <= 1000 /\ it.since.length <= 1000) (ht : 0 <= d.time /\ d.time <= 1000000) (hn : (h.items.map fun i => i.post.label).Nodup) (hl : d.label.length <= 1000 /\ d.other.length <= 1000) (hi : ∃ i ∈ h.items, i.post.label = d.label) (hj : ∃ i ∈ h.items, i.post.label = d.other) (hne : d.label ≠ d.other) (hk : d.kind = 4) :
  Calls Tryz.prog 97 #[.pointer (some ⟨A.hb, 0, none⟩), dedV d] W fun e W' => e = .returned (.tuple #[]) /\ ∃ A', WdH w W' n nx nxA nxC (actR n nx h d) A' /\ A'.core = A.core := by
 obtain ⟨i0, hi0, hz0, hz1, hz2⟩ := info_parts intTInf
 obtain ⟨s0, hs0, hsa, hsb, hsc⟩ := info_parts strTInf
 have hb0 : Below W.heap.size W (W.alloc (dedO d)).drew := b_drew (ba W (dedO d))
 have hx0 : (W.alloc (dedO d)).drew.heap[W.heap.size]? = some (dedO d) := heap_alloc_new W (dedO d)
 have H0 := H.below hb0
 obtain ⟨p, it, a, h1, h2, h3, h4, hlk⟩ := H0.look hl.1 hi
 obtain ⟨q, jt, b, k1, k2, k3, k4, hlk2⟩ := H0.look hl.2 hj
 have c8 : (W.alloc (dedO d)).drew.cell? ⟨A.hb, 8, none⟩ = some (.map (some A.nm)) := H0.hs.cell rfl
 have c3 : (W.alloc (dedO d)).drew.cell? ⟨W.heap.size, 7, none⟩ = some (sV d.label) := cell_of_row _ _ 7 _ _ _ hx0
 have c4 : (W.alloc (dedO d)).drew.cell? ⟨W.heap.size, 8, none⟩ = some (sV d.other) := cell_of_row _ _ 8 _ _ _ hx0
 have hq1 := hlk _ (Below.refl _ _)
 have hq2 := hlk2 _ (Below.refl _ _)
 have HH0 := Lib.hid H0
 have HX0 := Lib.hid hx0
 have HI := Lib.hid (And.intro h1 (And.intro h2 (And.intro h3 h4)))
 have HJ := Lib.hid (And.intro k1 (And.intro k2 (And.intro k3 k4)))
 have HK := Lib.hid hk
 have HNE := Lib.hid hne
 have HD := Lib.hid hD
 have HBB := Lib.hid hB
 have HT := Lib.hid ht
 have HNN := Lib.hid hn
 have HF := Lib.hid hF
 have HXA : Hid (∀ b ∈ A.all, b < W.heap.size) := fun b hb => (H.hs.lt b hb).2
 clear hk hne hD hB ht hn hF hlk hlk2 h1 h2 h3 h4 k1 k2 k3 k4 H0 hx0 hb0 H hl hi hj
 go_enter Tryz.func97, Tryz.ntmps97
 go_upto_region 1 with fail
 go_region
 clear c8 c3 c4 hq1 hq2
 change Exit.then _ _ _ _ (W.alloc (dedO d)).drew
 generalize (W.alloc (dedO d)).drew = W1 at *
 generalize W.heap.size = X at *
 have hit := HH0.out.hs.item p it a HI.out.1 HI.out.2.1
 have hjt := HH0.out.hs.item q jt b HJ.out.1 HJ.out.2.1
 have hdi := HD.out it (List.mem_of_getElem? HI.out.1)
 have hdj := HD.out jt (List.mem_of_getElem? HJ.out.1)
 obtain ⟨la0, la1⟩ := hit.last hdi.st.1
 obtain ⟨lb0, lb1⟩ := hjt.last hdj.st.1
 have t1 : W1.cell? ⟨X, 1, none⟩ = some (iV d.time) := cell_of_row _ _ 1 _ _ _ HX0.out
 have BA : Hid (∀ m, Calls Tryz.prog 100 #[.pointer (some ⟨a.b, 0, none⟩)] (W1.drewN m) fun e w'' => e = .returned (.pointer (some ⟨a.sB, (it.stops.length - 1) * 4, none⟩)) /\ ∃ j, w'' = W1.drewN j) := fun m => by
  refine (last_q w.heap.size it a _ (hit.below (below_drewN (Below.refl _ _) m)) hdi.st.1 hdi.st.2).mono ?_
  rintro e w' ⟨rfl, j, rfl⟩
  exact ⟨rfl, m + j, by rw [World.drewN_drewN]⟩
 have BB : Hid (∀ m, Calls Tryz.prog 100 #[.pointer (some ⟨b.b, 0, none⟩)] (W1.drewN m) fun e w'' => e = .returned (.pointer (some ⟨b.sB, (jt.stops.length - 1) * 4, none⟩)) /\ ∃ j, w'' = W1.drewN j) := fun m => by
  refine (last_q w.heap.size jt b _ (hjt.below (below_drewN (Below.refl _ _) m)) hdj.st.1 hdj.st.2).mono ?_
  rintro e w' ⟨rfl, j, rfl⟩
  exact ⟨rfl, m + j, by rw [World.drewN_drewN]⟩
 have HSI : Hid (SwI w.heap.size W1 it a /\ SwI w.heap.size W1 jt b) := ⟨⟨hit, hdi.st, hdi.la, hdi.si.2⟩, ⟨hjt, hdj.st, hdj.la, hdj.si.2⟩⟩
 have hact : actR n nx h d = if meetB it jt d.time then { h with items := (h.items.set p (decideI n nx h.canc (toLab h.items (carr jt)) (relabI it (carr jt) d.time))).set q (decideI n nx h.canc (toLab h.items (carr it)) (relabI jt (carr it) d.time)) } else h := by
  have hk := HK.out
  unfold actR
  rw [if_neg (by omega), if_neg (by omega), if_neg (by omega), if_pos hk, HI.out.2.2.2, HJ.out.2.2.2]
  dsimp only
  congr 1
  have := map_set2 HNN.out HI.out.1 HJ.out.1 HI.out.2.2.1 HJ.out.2.2.1 HNE.out (fun i => decideI n nx h.canc (toLab h.items (carr jt)) (relabI i (carr jt) d.time)) (fun i => decideI n nx h.canc (toLab h.items (carr it)) (relabI i (carr it) d.time))
  rw [<- this]
  rfl
 have HAC := Lib.hid hact
 clear hit hjt hdi hdj hact
 have HME : Hid (meetB it jt d.time = (((lastSt it.stops).office == (lastSt jt.stops).office) && decide ((lastSt it.stops).arrive <= d.time) && decide ((lastSt jt.stops).arrive <= d.time))) := rfl
 have HOUT : Hid (∀ m, meetB it jt d.time = false -> ∃ A', WdH w (W1.drewN m) n nx nxA nxC (actR n nx h d) A' /\ A'.core = A.core) := fun m hm => by
  rw [HAC.out, hm]
  exact ⟨A, HH0.out.below (below_drewN (Below.refl _ _) m), rfl⟩
 generalize (lastSt it.stops).office = oa at *
 generalize (lastSt it.stops).arrive = ra at *
 generalize (lastSt jt.stops).office = ob at *
 generalize (lastSt jt.stops).arrive = rb at *
 go_upto_region 2 with fail
 by_cases g1 : oa = ob
 case neg =>
  have e1 : (oa != ob) = true := by simpa using g1
  have HM : Hid (meetB it jt d.time = false) := by show _ = _; rw [HME.out]; simp [g1]
  clear g1
  go_quiet (first | (with_reducible exact BA.out _) | (with_reducible exact BB.out _))
  go_wp2_with fail
  exact bodyPost_ret (results_none rfl _ _ _) rfl ⟨rfl, HOUT.out _ HM.out⟩
 have e1 : (oa != ob) = false := by simpa using g1
 by_cases g2 : ra <= d.time
 case neg =>
  have e2 : d.time < ra := by omega
  have HM : Hid (meetB it jt d.time = false) := by show _ = _; rw [HME.out]; simp [g2]
  clear g1 g2
  go_quiet (first | (with_reducible exact BA.out _) | (with_reducible exact BB.out _))
  go_wp2_with fail
  exact bodyPost_ret (results_none rfl _ _ _) rfl ⟨rfl, HOUT.out _ HM.out⟩
 have e2 : ¬ d.time < ra := by omega
 by_cases g3 : rb <= d.time
 case neg =>
  have e3 : d.time < rb := by omega
  have HM : Hid (meetB it jt d.time = false) := by show _ = _; rw [HME.out]; simp [g3]
  clear g1 g2 g3
  go_quiet (first | (with_reducible exact BA.out _) | (with_reducible exact BB.out _))
  go_wp2_with fail
  exact bodyPost_ret (results_none rfl _ _ _) rfl ⟨rfl, HOUT.out _ HM.out⟩
 have e3 : ¬ d.time < rb := by omega
 have HM : Hid (meetB it jt d.time = true) := by show _ = _; rw [HME.out]; simp [g1, g2, g3]
 clear g1 g2 g3
 go_quiet (first | (with_reducible exact BA.out _) | (with_reducible exact BB.out _))
 clear e1 e2 e3 la0 la1 lb0 lb1 t1 BA BB HOUT HME
 have HB1 : Hid (Below W1.heap.size W1 (W1.drewN nq)) := below_drewN (Below.refl _ _) nq
 have HH1 := Lib.hid (HH0.out.below HB1.out)
 have HX1 := Lib.hid ((HB1.out.block _ (block_lt HX0.out)).trans HX0.out)
 have HSI1 : Hid (SwI w.heap.size (W1.drewN nq) it a /\ SwI w.heap.size (W1.drewN nq) jt b) := ⟨⟨HSI.out.1.in_.below HB1.out, HSI.out.1.st, HSI.out.1.la, HSI.out.1.si⟩, ⟨HSI.out.2.in_.below HB1.out, HSI.out.2.st, HSI.out.2.la, HSI.out.2.si⟩⟩
 go_upto_region 3 with fail
 change Code.wp _ _ _ _ (W1.drewN nq)
 clear HSI HH0 HX0 HB1
 generalize (W1.drewN nq) = W2 at *
 go_wp2_with fail
 refine (carried_any w.heap.size it a _ HSI1.out.1.in_ HSI1.out.1.la.1 HSI1.out.1.la.2).mono ?_
 rintro e w3 ⟨rfl, hb⟩
 have HB3 := Lib.hid hb
 clear hb
 go_wp2_with fail
 refine (carried_any w.heap.size jt b _ (HSI1.out.2.in_.below HB3.out) HSI1.out.2.la.1 HSI1.out.2.la.2).mono ?_
 rintro e w4 ⟨rfl, hb⟩
 have HB4 := Lib.hid (bt HB3.out hb)
 clear hb HB3
 have HH4 := Lib.hid (HH1.out.below HB4.out)
 have HX4 := Lib.hid ((HB4.out.block _ (block_lt HX1.out)).trans HX1.out)
 have HIa := Lib.hid (HSI1.out.1.in_.below HB4.out)
 have HIb := Lib.hid (HSI1.out.2.in_.below HB4.out)
 have HSN : Hid (it.since.length <= 100000 /\ jt.since.length <= 100000 /\ it.labs.length <= 100000 /\ jt.labs.length <= 100000) := ⟨HSI1.out.1.si, HSI1.out.2.si, HSI1.out.1.la.2, HSI1.out.2.la.2⟩
 clear HSI1 HH1 HX1 HB4
 have hpq : p ≠ q := fun e => by
  have h1 := HI.out.1
  rw [e, HJ.out.1] at h1
  cases h1
  exact HNE.out (HI.out.2.2.1.symm.trans HJ.out.2.2.1)
 have HPQ := Lib.hid hpq
 have HNB : Hid ((a.blks ++ b.blks).Nodup) := by
  have h9 := HH4.out.hs
  refine List.nodup_append.2 ⟨(h9.blks HI.out.2.1).1, (h9.blks HJ.out.2.1).1, fun x hx y hy e => ?_⟩
  subst e
  have hpw := (List.pairwise_flatMap.1 (List.nodup_append.1 h9.nodup).2.1).2
  obtain ⟨g1, e1⟩ := List.getElem?_eq_some_iff.1 HI.out.2.1
  obtain ⟨g2, e2⟩ := List.getElem?_eq_some_iff.1 HJ.out.2.1
  rcases Nat.lt_or_gt_of_ne hpq with hlt | hlt
  ·exact List.pairwise_iff_getElem.1 hpw p q g1 g2 hlt x (by rw [e1]; exact hx) x (by rw [e2]; exact hy) rfl
  ·exact List.pairwise_iff_getElem.1 hpw q p g2 g1 hlt x (by rw [e2]; exact hy) x (by rw [e1]; exact hx) rfl
 clear hpq
 go_upto_region 4 with fail
 go_cut [] from 57 to 112 (fun wx => ∃ (a' b' : ItA), Two w.heap.size w4 wx a b a' b' { it with since := it.since ++ [d.time] } { jt with since := jt.since ++ [d.time] })
 case first =>
  obtain ⟨lv, -, -, lA⟩ := HIa.out.cells
  obtain ⟨mv, -, -, lB⟩ := HIb.out.cells
  obtain ⟨⟨ab_s, ab_n, ab_l, as_n, as_l, an_l⟩, ⟨bb_s, bb_n, bb_l, bs_n, bs_l, bn_l⟩, ⟨⟨x11, x12, x13, x14⟩, ⟨x21, x22, x23, x24⟩, ⟨x31, x32, x33, x34⟩, ⟨x41, x42, x43, x44⟩⟩, -, -, -⟩ := blks_ne HNB.out
  have hnA : a.b ∉ [a.nB, b.nB] := by simp; exact ⟨ab_n, x13⟩
  have hnB : b.b ∉ [a.nB, b.nB] := by simp; exact ⟨x31.symm, bb_n⟩
  have hXX : X < w4.heap.size := block_lt HX4.out
  have hwl : w.heap.size <= w4.heap.size := HH4.out.bel.size
  have hXa : a.nB < X := HXA.out _ (List.mem_append_right _ (List.mem_flatMap.2 ⟨a, List.mem_of_getElem? HI.out.2.1, by simp [ItA.blks]⟩))
  have hXb : b.nB < X := HXA.out _ (List.mem_append_right _ (List.mem_flatMap.2 ⟨b, List.mem_of_getElem? HJ.out.2.1, by simp [ItA.blks]⟩))
  have hs1 := HSN.out.1
  have hs2 := HSN.out.2.1
  have HAR := Lib.hid HIa.out.si
  have HBR := Lib.hid HIb.out.si
  have hb9 : b.nB < w4.heap.size := (own_lt HIb.out.si rfl).2
  have ha9 : a.nB < w4.heap.size := (own_lt HIa.out.si rfl).2
  have hab : a.b < w4.heap.size := block_lt lA
  have hbb : b.b < w4.heap.size := block_lt lB
  have HST : Hid (∀ W', ChgS [a.nB, b.nB] w4 W' -> (W'.cell? ⟨a.b, 7, none⟩ = some (.slice (some ⟨a.nB, 0, none⟩) it.since.length a.nC) /\ W'.cell? ⟨b.b, 7, none⟩ = some (.slice (some ⟨b.nB, 0, none⟩) jt.since.length b.nC) /\ W'.cell? ⟨X, 1, none⟩ = some (iV d.time))) := fun W' hc =>
   ⟨cell_of_row _ _ 7 _ _ _ ((hc.block _ hab hnA).trans lA), cell_of_row _ _ 7 _ _ _ ((hc.block _ hbb hnB).trans lB), cell_of_row _ _ 1 _ _ _ ((hc.block _ hXX (by simp; omega)).trans HX4.out)⟩
  have HBC : Hid (∀ W', Below w4.heap.size w4 W' -> ChgS [a.nB, b.nB] w4 W') := fun W' hb => ChgS.of_below hb
  have HD0 : Hid (Below w4.heap.size w4 w4.drew) := b_drew (Below.refl _ _)
  refine wp_region_noPanic ?_
  refine wp_region_L 23 (fun w' => w'.cell? ⟨a.b, 7, none⟩ = some (.slice (some ⟨a.nB, 0, none⟩) it.since.length a.nC) /\ w'.cell? ⟨b.b, 7, none⟩ = some (.slice (some ⟨b.nB, 0, none⟩) jt.since.length b.nC) /\ w'.cell? ⟨X, 1, none⟩ = some (iV d.time)) (by kernel_rfl) (HST.out _ (HBC.out _ HD0.out)) (fun hHeld => ?_)
  refine puL 0 ?_
  try simp only [LY]
  refine puL 1 ?_
  try simp only [LY]
  refine puL 2 ?_
  try simp only [LY]
  refine puL 3 ?_
  try simp only [LY]
  refine puL 4 ?_
  try simp only [LY]
  refine puL 5 ?_
  try simp only [LY]
  refine taL 6 ?_
  try simp only [LY]
  refine puL 7 ?_
  try simp only [LY]
  refine taL 8 ?_
  try simp only [LY]
  refine puL 11 ?_
  try simp only [LY]
  refine puL 12 ?_
  try simp only [LY]
  refine puL 13 ?_
  try simp only [LY]
  refine puL 14 ?_
  try simp only [LY]
  refine taL 15 ?_
  try simp only [LY]
  refine puL 16 ?_
  try simp only [LY]
  refine taL 17 ?_
  try simp only [LY]
  refine wpAnyL_ready (rs := [9, 18]) (by kernel_rfl) (by simp) ?_
  refine AllReadyL.cons rfl (fun K hK => ?rn1) (AllReadyL.cons rfl (fun K hK => ?rn2) AllReadyL.nil)
  case rn1 =>
   go_simp
   refine hK.out _ _ (HST.out _ (HBC.out _ (((HD0.out).alloc (HD0.out).size _)))) (fun hHeld => ?_)
   clear hK K
   try simp only [LY]
   refine wpAnyL_ready (rs := [10, 18]) (by kernel_rfl) (by simp) ?_
   refine AllReadyL.cons rfl (fun K hK => ?rn3) (AllReadyL.cons rfl (fun K hK => ?rn4) AllReadyL.nil)
   case rn3 =>
    refine step_append_lies _ (by rfl) (.tmp 63) (.tmp 66) _ (by rfl) w.heap.size 3 i0 _ 1 8 Tryz.underlying46 hi0 hz0 hz1 hz2 rfl (by omega) (.slice (some ⟨a.nB, 0, none⟩) it.since.length a.nC) it.since.length (it.since.map iV) (by rfl) ((HAR.out.drew).alloc _) _ 1 1 [iV d.time] (by rfl) rfl (news_of (heap_alloc_new _ _)) (fun u hu => by simp at hu; subst hu; rfl) (by omega) (by unfold maxLen; omega) (by omega) (by first | omega | (simp <;> omega)) _ rfl ?_
    intro g1 d1 v1 own1 hg1 hat1 hlt1
    have HGW := Lib.hid hg1
    have HG1 : Hid (Grew1 w.heap.size w4 v1 3 a.nB g1 d1 (it.since.length + 1) (it.since.map iV ++ [iV d.time])) := grew_one (((HD0.out).alloc (HD0.out).size _)) own1 hg1 hat1 (by first | omega | (simp <;> omega))
    clear own1 hg1 hat1 hlt1
    refine hK.out _ _ (HST.out _ ((HG1.out).chg.mono (fun x hx => by simp at hx ⊢; exact .inl hx))) (fun hHeld => ?_)
    clear hK K
    try simp only [LY]
    refine reL 18 (fun K hK => ?_)
    go_simp
    refine hK.out _ _ (HST.out _ ((HG1.out.alloc _).chg.mono (fun x hx => by simp at hx ⊢; exact .inl hx))) (fun hHeld => ?_)
    clear hK K
    try simp only [LY]
    refine reL 19 (fun K hK => ?_)
    have hzs := HG1.out.chg.size
    refine step_append_lies _ (by rfl) (.tmp 72) (.tmp 75) _ (by rfl) w.heap.size 3 i0 _ 1 8 Tryz.underlying46 hi0 hz0 hz1 hz2 rfl (by omega) (.slice (some ⟨b.nB, 0, none⟩) jt.since.length b.nC) jt.since.length (jt.since.map iV) (by rfl) ((own_chg HBR.out HG1.out.chg (fun x hx => by cases hx; simpa using x33.symm)).alloc _) _ 1 1 [iV d.time] (by rfl) rfl (news_of (heap_alloc_new _ _)) (fun u hu => by simp at hu; subst hu; rfl) (by omega) (by unfold maxLen; omega) (by omega) (by first | omega | (simp <;> omega)) _ rfl ?_
    intro g2 d2 v2 own2 hg2 hat2 hlt2
    have HG2 : Hid (Grew w.heap.size w4 v2 3 a.nB b.nB g1 d1 g2 d2 (it.since.length + 1) (jt.since.length + 1) (it.since.map iV ++ [iV d.time]) (jt.since.map iV ++ [iV d.time])) := grew_two (HG1.out.alloc _) x33 hb9 own2 hg2 hat2 (Nat.le_refl _)
    have hcg := HG2.out.chg
    have f1 : v2.frozen? ⟨a.b, 7, none⟩ = false := frozen_row ((hcg.block _ hab hnA).trans lA) 7
    have f2 : v2.frozen? ⟨b.b, 7, none⟩ = false := frozen_row ((hcg.block _ hbb hnB).trans lB) 7
    clear own2 hg2 hat2 hlt2 hzs hcg
    refine hK.out _ _ (HST.out _ HG2.out.chg) (fun hHeld => ?_)
    clear hK K
    try simp only [LY]
    refine puL 20 ?_
    try simp only [LY]
    refine puL 21 ?_
    try simp only [LY]
    refine puL 22 ?_
    try simp only [LY]
    refine wpAnyL_store (by kernel_rfl) rfl (fun K hK => ?_)
    go_simp
    refine hK.out _ _ ?_
    clear hK K
    try simp only [LY]
    refine ta0 24 ?_
    try simp only [LY]
    refine ta0 25 ?_
    try simp only [LY]
    refine ta0 26 ?_
    try simp only [LY]
    refine wpAny_ready (rs := [27]) (by kernel_rfl) (by simp) ?_
    refine AllReady.cons rfl (fun K hK => ?_) AllReady.nil
    go_simp
    refine hK _ _ ?_
    clear hK K
    try simp only [LY]
    refine wpAny_done (by kernel_rfl) ?_ _
    refine NoPanic.normal ?_
    go_wp2_with fail
    go_meet
    exact ⟨_, _, Two.since HIa.out HIb.out HNB.out HG2.out⟩
   case rn4 =>
    go_simp
    refine hK.out _ _ (HST.out _ (HBC.out _ (((((HD0.out).alloc (HD0.out).size _)).alloc (((HD0.out).alloc (HD0.out).size _)).size _)))) (fun hHeld => ?_)
    clear hK K
    try simp only [LY]
    refine reL 10 (fun K hK => ?_)
    refine step_append_lies _ (by rfl) (.tmp 63) (.tmp 66) _ (by rfl) w.heap.size 3 i0 _ 1 8 Tryz.underlying46 hi0 hz0 hz1 hz2 rfl (by omega) (.slice (some ⟨a.nB, 0, none⟩) it.since.length a.nC) it.since.length (it.since.map iV) (by rfl) (((HAR.out.drew).alloc _).alloc _) _ 1 1 [iV d.time] (by rfl) rfl (news_of ((Below.heap_alloc _ _ _ (by simp)).trans (heap_alloc_new _ _))) (fun u hu => by simp at hu; subst hu; rfl) (by omega) (by unfold maxLen; omega) (by omega) (by first | omega | (simp <;> omega)) _ rfl ?_
    intro g1 d1 v1 own1 hg1 hat1 hlt1
    have HGW := Lib.hid hg1
    have HG1 : Hid (Grew1 w.heap.size w4 v1 3 a.nB g1 d1 (it.since.length + 1) (it.since.map iV ++ [iV d.time])) := grew_one (((((HD0.out).alloc (HD0.out).size _)).alloc (((HD0.out).alloc (HD0.out).size _)).size _)) own1 hg1 hat1 (by first | omega | (simp <;> omega))
    clear own1 hg1 hat1 hlt1
    refine hK.out _ _ (HST.out _ ((HG1.out).chg.mono (fun x hx => by simp at hx ⊢; exact .inl hx))) (fun hHeld => ?_)
    clear hK K
    try simp only [LY]
    refine reL 19 (fun K hK => ?_)
    have hzs := HG1.out.chg.size
    refine step_append_lies _ (by rfl) (.tmp 72) (.tmp 75) _ (by rfl) w.heap.size 3 i0 _ 1 8 Tryz.underlying46 hi0 hz0 hz1 hz2 rfl (by omega) (.slice (some ⟨b.nB, 0, none⟩) jt.since.length b.nC) jt.since.length (jt.since.map iV) (by rfl) (own_chg HBR.out HG1.out.chg (fun x hx => by cases hx; simpa using x33.symm)) _ 1 1 [iV d.time] (by rfl) rfl (news_of ((HGW.out.block _ (by first | omega | (simp <;> omega)) (fun e => absurd (Option.some.inj e) (by first | omega | (simp <;> omega)))).trans (by have h9 := heap_alloc_new (w4.drew.alloc (.cells #[iV d.time] 3)) (.cells #[iV d.time] 3); rw [World.size_alloc] at h9; exact h9))) (fun u hu => by simp at hu; subst hu; rfl) (by omega) (by unfold maxLen; omega) (by omega) (by first | omega | (simp <;> omega)) _ rfl ?_
    intro g2 d2 v2 own2 hg2 hat2 hlt2
    have HG2 : Hid (Grew w.heap.size w4 v2 3 a.nB b.nB g1 d1 g2 d2 (it.since.length + 1) (jt.since.length + 1) (it.since.map iV ++ [iV d.time]) (jt.since.map iV ++ [iV d.time])) := grew_two HG1.out x33 hb9 own2 hg2 hat2 (Nat.le_refl _)
    have hcg := HG2.out.chg
    have f1 : v2.frozen? ⟨a.b, 7, none⟩ = false := frozen_row ((hcg.block _ hab hnA).trans lA) 7
    have f2 : v2.frozen? ⟨b.b, 7, none⟩ = false := frozen_row ((hcg.block _ hbb hnB).trans lB) 7
    clear own2 hg2 hat2 hlt2 hzs hcg
    refine hK.out _ _ (HST.out _ HG2.out.chg) (fun hHeld => ?_)
    clear hK K
    try simp only [LY]
    refine puL 20 ?_
    try simp only [LY]
    refine puL 21 ?_
    try simp only [LY]
    refine puL 22 ?_
    try simp only [LY]
    refine wpAnyL_store (by kernel_rfl) rfl (fun K hK => ?_)
    go_simp
    refine hK.out _ _ ?_
    clear hK K
    try simp only [LY]
    refine ta0 24 ?_
    try simp only [LY]
    refine ta0 25 ?_
    try simp only [LY]
    refine ta0 26 ?_
    try simp only [LY]
    refine wpAny_ready (rs := [27]) (by kernel_rfl) (by simp) ?_
    refine AllReady.cons rfl (fun K hK => ?_) AllReady.nil
    go_simp
    refine hK _ _ ?_
    clear hK K
    try simp only [LY]
    refine wpAny_done (by kernel_rfl) ?_ _
    refine NoPanic.normal ?_
    go_wp2_with fail
    go_meet
    exact ⟨_, _, Two.since HIa.out HIb.out HNB.out HG2.out⟩
  case rn2 =>
   go_simp
   refine hK.out _ _ (HST.out _ (HBC.out _ (((HD0.out).alloc (HD0.out).size _)))) (fun hHeld => ?_)
   clear hK K
   try simp only [LY]
   refine reL 9 (fun K hK => ?_)
   go_simp
   refine hK.out _ _ (HST.out _ (HBC.out _ (((((HD0.out).alloc (HD0.out).size _)).alloc (((HD0.out).alloc (HD0.out).size _)).size _)))) (fun hHeld => ?_)
   clear hK K
   try simp only [LY]
   refine reL 10 (fun K hK => ?_)
   refine step_append_lies _ (by rfl) (.tmp 63) (.tmp 66) _ (by rfl) w.heap.size 3 i0 _ 1 8 Tryz.underlying46 hi0 hz0 hz1 hz2 rfl (by omega) (.slice (some ⟨a.nB, 0, none⟩) it.since.length a.nC) it.since.length (it.since.map iV) (by rfl) (((HAR.out.drew).alloc _).alloc _) _ 1 1 [iV d.time] (by rfl) rfl (news_of (by have h9 := heap_alloc_new (w4.drew.alloc (.cells #[iV d.time] 3)) (.cells #[iV d.time] 3); rw [World.size_alloc] at h9; exact h9)) (fun u hu => by simp at hu; subst hu; rfl) (by omega) (by unfold maxLen; omega) (by omega) (by first | omega | (simp <;> omega)) _ rfl ?_
   intro g1 d1 v1 own1 hg1 hat1 hlt1
   have HGW := Lib.hid hg1
   have HG1 : Hid (Grew1 w.heap.size w4 v1 3 a.nB g1 d1 (it.since.length + 1) (it.since.map iV ++ [iV d.time])) := grew_one (((((HD0.out).alloc (HD0.out).size _)).alloc (((HD0.out).alloc (HD0.out).size _)).size _)) own1 hg1 hat1 (by first | omega | (simp <;> omega))
   clear own1 hg1 hat1 hlt1
   refine hK.out _ _ (HST.out _ ((HG1.out).chg.mono (fun x hx => by simp at hx ⊢; exact .inl hx))) (fun hHeld => ?_)
   clear hK K
   try simp only [LY]
   refine reL 19 (fun K hK => ?_)
   have hzs := HG1.out.chg.size
   refine step_append_lies _ (by rfl) (.tmp 72) (.tmp 75) _ (by rfl) w.heap.size 3 i0 _ 1 8 Tryz.underlying46 hi0 hz0 hz1 hz2 rfl (by omega) (.slice (some ⟨b.nB, 0, none⟩) jt.since.length b.nC) jt.since.length (jt.since.map iV) (by rfl) (own_chg HBR.out HG1.out.chg (fun x hx => by cases hx; simpa using x33.symm)) _ 1 1 [iV d.time] (by rfl) rfl (news_of ((HGW.out.block _ (by first | omega | (simp <;> omega)) (fun e => absurd (Option.some.inj e) (by first | omega | (simp <;> omega)))).trans ((Below.heap_alloc _ _ _ (by simp)).trans (heap_alloc_new _ _)))) (fun u hu => by simp at hu; subst hu; rfl) (by omega) (by unfold maxLen; omega) (by omega) (by first | omega | (simp <;> omega)) _ rfl ?_
   intro g2 d2 v2 own2 hg2 hat2 hlt2
   have HG2 : Hid (Grew w.heap.size w4 v2 3 a.nB b.nB g1 d1 g2 d2 (it.since.length + 1) (jt.since.length + 1) (it.since.map iV ++ [iV d.time]) (jt.since.map iV ++ [iV d.time])) := grew_two HG1.out x33 hb9 own2 hg2 hat2 (Nat.le_refl _)
   have hcg := HG2.out.chg
   have f1 : v2.frozen? ⟨a.b, 7, none⟩ = false := frozen_row ((hcg.block _ hab hnA).trans lA) 7
   have f2 : v2.frozen? ⟨b.b, 7, none⟩ = false := frozen_row ((hcg.block _ hbb hnB).trans lB) 7
   clear own2 hg2 hat2 hlt2 hzs hcg
   refine hK.out _ _ (HST.out _ HG2.out.chg) (fun hHeld => ?_)
   clear hK K
   try simp only [LY]
   refine puL 20 ?_
   try simp only [LY]
   refine puL 21 ?_
   try simp only [LY]
   refine puL 22 ?_
   try simp only [LY]
   refine wpAnyL_store (by kernel_rfl) rfl (fun K hK => ?_)
   go_simp
   refine hK.out _ _ ?_
   clear hK K
   try simp only [LY]
   refine ta0 24 ?_
   try simp only [LY]
   refine ta0 25 ?_
   try simp only [LY]
   refine ta0 26 ?_
   try simp only [LY]
   refine wpAny_ready (rs := [27]) (by kernel_rfl) (by simp) ?_
   refine AllReady.cons rfl (fun K hK => ?_) AllReady.nil
   go_simp
   refine hK _ _ ?_
   clear hK K
   try simp only [LY]
   refine wpAny_done (by kernel_rfl) ?_ _
   refine NoPanic.normal ?_
   go_wp2_with fail
   go_meet
   exact ⟨_, _, Two.since HIa.out HIb.out HNB.out HG2.out⟩
 case rest =>
 obtain ⟨a', b', hT⟩ := hcut
 have HT1 := Lib.hid hT
 have HSA := Lib.hid hT.sa
 have HSB := Lib.hid hT.sb
 clear hT
 go_upto_region 5 with fail
 go_cut [] from 83 to 112 (fun wy => ∃ (a'' b'' : ItA), Two w.heap.size w4 wy a b a'' b'' (relabI it (carr jt) d.time) (relabI jt (carr it) d.time))
 case first =>
  obtain ⟨lv, -, -, lA⟩ := HT1.out.ina.cells
  obtain ⟨mv, -, -, lB⟩ := HT1.out.inb.cells
  rw [HSA.out] at lA
  rw [HSB.out] at lB
  obtain ⟨⟨ab_s, ab_n, ab_l, as_n, as_l, an_l⟩, ⟨bb_s, bb_n, bb_l, bs_n, bs_l, bn_l⟩, ⟨⟨x11, x12, x13, x14⟩, ⟨x21, x22, x23, x24⟩, ⟨x31, x32, x34, x3n⟩, ⟨x41, x42, x43, x33⟩⟩, -, -, -⟩ := blks_ne HT1.out.nodup
  have hnA : a.b ∉ [a'.lB, b'.lB] := by
   rw [<- HSA.out]
   simp
   exact ⟨ab_l, x14⟩
  have hnB : b.b ∉ [a'.lB, b'.lB] := by
   rw [<- HSB.out]
   simp
   exact ⟨x41.symm, bb_l⟩
  have x11' : a.b ≠ b.b := by rw [<- HSA.out, <- HSB.out]; exact x11
  have hwl : w.heap.size <= wc.heap.size := Nat.le_trans HH4.out.bel.size HT1.out.chg.size
  have hs1 := HSN.out.2.2.1
  have hs2 := HSN.out.2.2.2
  have HAR := Lib.hid HT1.out.ina.la
  have HBR := Lib.hid HT1.out.inb.la
  have hb9 : b'.lB < wc.heap.size := (own_lt HT1.out.inb.la rfl).2
  have ha9 : a'.lB < wc.heap.size := (own_lt HT1.out.ina.la rfl).2
  have hab : a.b < wc.heap.size := block_lt lA
  have hbb : b.b < wc.heap.size := block_lt lB
  have HST : Hid (∀ W', ChgS [a'.lB, b'.lB] wc W' -> (W'.cell? ⟨a.b, 8, none⟩ = some (.slice (some ⟨a'.lB, 0, none⟩) it.labs.length a'.lC) /\ W'.cell? ⟨b.b, 8, none⟩ = some (.slice (some ⟨b'.lB, 0, none⟩) jt.labs.length b'.lC))) := fun W' hc =>
   ⟨cell_of_row _ _ 8 _ _ _ ((hc.block _ hab hnA).trans lA), cell_of_row _ _ 8 _ _ _ ((hc.block _ hbb hnB).trans lB)⟩
  have HBC : Hid (∀ W', Below wc.heap.size wc W' -> ChgS [a'.lB, b'.lB] wc W') := fun W' hb => ChgS.of_below hb
  have HD0 : Hid (Below wc.heap.size wc wc.drew) := b_drew (Below.refl _ _)
  refine wp_region_noPanic ?_
  refine wp_region_L 21 (fun w' => w'.cell? ⟨a.b, 8, none⟩ = some (.slice (some ⟨a'.lB, 0, none⟩) it.labs.length a'.lC) /\ w'.cell? ⟨b.b, 8, none⟩ = some (.slice (some ⟨b'.lB, 0, none⟩) jt.labs.length b'.lC)) (by kernel_rfl) (HST.out _ (HBC.out _ HD0.out)) (fun hHeld => ?_)
  refine puL 0 ?_
  try simp only [LY]
  refine puL 1 ?_
  try simp only [LY]
  refine puL 2 ?_
  try simp only [LY]
  refine puL 3 ?_
  try simp only [LY]
  refine puL 4 ?_
  try simp only [LY]
  refine puL 5 ?_
  try simp only [LY]
  refine taL 6 ?_
  try simp only [LY]
  refine puL 7 ?_
  try simp only [LY]
  refine puL 10 ?_
  try simp only [LY]
  refine puL 11 ?_
  try simp only [LY]
  refine puL 12 ?_
  try simp only [LY]
  refine puL 13 ?_
  try simp only [LY]
  refine taL 14 ?_
  try simp only [LY]
  refine puL 15 ?_
  try simp only [LY]
  refine wpAnyL_ready (rs := [8, 16]) (by kernel_rfl) (by simp) ?_
  refine AllReadyL.cons rfl (fun K hK => ?rl1) (AllReadyL.cons rfl (fun K hK => ?rl2) AllReadyL.nil)
  case rl1 =>
   go_simp
   refine hK.out _ _ (HST.out _ (HBC.out _ (((HD0.out).alloc (HD0.out).size _)))) (fun hHeld => ?_)
   clear hK K
   try simp only [LY]
   refine wpAnyL_ready (rs := [9, 16]) (by kernel_rfl) (by simp) ?_
   refine AllReadyL.cons rfl (fun K hK => ?rl3) (AllReadyL.cons rfl (fun K hK => ?rl4) AllReadyL.nil)
   case rl3 =>
    refine step_append_lies _ (by rfl) (.tmp 89) (.tmp 91) _ (by rfl) w.heap.size 9 s0 _ 1 16 Tryz.underlying23 hs0 hsa hsb hsc rfl (by omega) (.slice (some ⟨a'.lB, 0, none⟩) it.labs.length a'.lC) it.labs.length (it.labs.map sV) (by rfl) ((HAR.out.drew).alloc _) _ 1 1 [sV (carr jt)] (by rfl) rfl (news_of (heap_alloc_new _ _)) (fun u hu => by simp at hu; subst hu; rfl) (by omega) (by unfold maxLen; omega) (by omega) (by first | omega | (simp <;> omega)) _ rfl ?_
    intro g1 d1 v1 own1 hg1 hat1 hlt1
    have HGW := Lib.hid hg1
    have HG1 : Hid (Grew1 w.heap.size wc v1 9 a'.lB g1 d1 (it.labs.length + 1) (it.labs.map sV ++ [sV (carr jt)])) := grew_one (((HD0.out).alloc (HD0.out).size _)) own1 hg1 hat1 (by first | omega | (simp <;> omega))
    clear own1 hg1 hat1 hlt1
    refine hK.out _ _ (HST.out _ ((HG1.out).chg.mono (fun x hx => by simp at hx ⊢; exact .inl hx))) (fun hHeld => ?_)
    clear hK K
    try simp only [LY]
    refine reL 16 (fun K hK => ?_)
    go_simp
    refine hK.out _ _ (HST.out _ ((HG1.out.alloc _).chg.mono (fun x hx => by simp at hx ⊢; exact .inl hx))) (fun hHeld => ?_)
    clear hK K
    try simp only [LY]
    refine reL 17 (fun K hK => ?_)
    have hzs := HG1.out.chg.size
    refine step_append_lies _ (by rfl) (.tmp 97) (.tmp 99) _ (by rfl) w.heap.size 9 s0 _ 1 16 Tryz.underlying23 hs0 hsa hsb hsc rfl (by omega) (.slice (some ⟨b'.lB, 0, none⟩) jt.labs.length b'.lC) jt.labs.length (jt.labs.map sV) (by rfl) ((own_chg HBR.out HG1.out.chg (fun x hx => by cases hx; simpa using x33.symm)).alloc _) _ 1 1 [sV (carr it)] (by rfl) rfl (news_of (heap_alloc_new _ _)) (fun u hu => by simp at hu; subst hu; rfl) (by omega) (by unfold maxLen; omega) (by omega) (by first | omega | (simp <;> omega)) _ rfl ?_
    intro g2 d2 v2 own2 hg2 hat2 hlt2
    have HG2 : Hid (Grew w.heap.size wc v2 9 a'.lB b'.lB g1 d1 g2 d2 (it.labs.length + 1) (jt.labs.length + 1) (it.labs.map sV ++ [sV (carr jt)]) (jt.labs.map sV ++ [sV (carr it)])) := grew_two (HG1.out.alloc _) x33 hb9 own2 hg2 hat2 (Nat.le_refl _)
    have hcg := HG2.out.chg
    have f1 : v2.frozen? ⟨a.b, 8, none⟩ = false := frozen_row ((hcg.block _ hab hnA).trans lA) 8
    have f2 : v2.frozen? ⟨b.b, 8, none⟩ = false := frozen_row ((hcg.block _ hbb hnB).trans lB) 8
    clear own2 hg2 hat2 hlt2 hzs hcg
    refine hK.out _ _ (HST.out _ HG2.out.chg) (fun hHeld => ?_)
    clear hK K
    try simp only [LY]
    refine puL 18 ?_
    try simp only [LY]
    refine puL 19 ?_
    try simp only [LY]
    refine puL 20 ?_
    try simp only [LY]
    refine wpAnyL_store (by kernel_rfl) rfl (fun K hK => ?_)
    go_simp
    refine hK.out _ _ ?_
    clear hK K
    try simp only [LY]
    refine ta0 22 ?_
    try simp only [LY]
    refine ta0 23 ?_
    try simp only [LY]
    refine ta0 24 ?_
    try simp only [LY]
    refine wpAny_ready (rs := [25]) (by kernel_rfl) (by simp) ?_
    refine AllReady.cons rfl (fun K hK => ?_) AllReady.nil
    go_simp
    refine hK _ _ ?_
    clear hK K
    try simp only [LY]
    refine wpAny_done (by kernel_rfl) ?_ _
    refine NoPanic.normal ?_
    go_wp2_with fail
    go_meet
    have h9 := Two.labs HT1.out.ina HT1.out.inb HT1.out.nodup HG2.out
    rw [HSA.out, HSB.out] at h9
    exact ⟨_, _, HT1.out.trans h9⟩
   case rl4 =>
    go_simp
    refine hK.out _ _ (HST.out _ (HBC.out _ (((((HD0.out).alloc (HD0.out).size _)).alloc (((HD0.out).alloc (HD0.out).size _)).size _)))) (fun hHeld => ?_)
    clear hK K
    try simp only [LY]
    refine reL 9 (fun K hK => ?_)
    refine step_append_lies _ (by rfl) (.tmp 89) (.tmp 91) _ (by rfl) w.heap.size 9 s0 _ 1 16 Tryz.underlying23 hs0 hsa hsb hsc rfl (by omega) (.slice (some ⟨a'.lB, 0, none⟩) it.labs.length a'.lC) it.labs.length (it.labs.map sV) (by rfl) (((HAR.out.drew).alloc _).alloc _) _ 1 1 [sV (carr jt)] (by rfl) rfl (news_of ((Below.heap_alloc _ _ _ (by simp)).trans (heap_alloc_new _ _))) (fun u hu => by simp at hu; subst hu; rfl) (by omega) (by unfold maxLen; omega) (by omega) (by first | omega | (simp <;> omega)) _ rfl ?_
    intro g1 d1 v1 own1 hg1 hat1 hlt1
    have HGW := Lib.hid hg1
    have HG1 : Hid (Grew1 w.heap.size wc v1 9 a'.lB g1 d1 (it.labs.length + 1) (it.labs.map sV ++ [sV (carr jt)])) := grew_one (((((HD0.out).alloc (HD0.out).size _)).alloc (((HD0.out).alloc (HD0.out).size _)).size _)) own1 hg1 hat1 (by first | omega | (simp <;> omega))
    clear own1 hg1 hat1 hlt1
    refine hK.out _ _ (HST.out _ ((HG1.out).chg.mono (fun x hx => by simp at hx ⊢; exact .inl hx))) (fun hHeld => ?_)
    clear hK K
    try simp only [LY]
    refine reL 17 (fun K hK => ?_)
    have hzs := HG1.out.chg.size
    refine step_append_lies _ (by rfl) (.tmp 97) (.tmp 99) _ (by rfl) w.heap.size 9 s0 _ 1 16 Tryz.underlying23 hs0 hsa hsb hsc rfl (by omega) (.slice (some ⟨b'.lB, 0, none⟩) jt.labs.length b'.lC) jt.labs.length (jt.labs.map sV) (by rfl) (own_chg HBR.out HG1.out.chg (fun x hx => by cases hx; simpa using x33.symm)) _ 1 1 [sV (carr it)] (by rfl) rfl (news_of ((HGW.out.block _ (by first | omega | (simp <;> omega)) (fun e => absurd (Option.some.inj e) (by first | omega | (simp <;> omega)))).trans (by have h9 := heap_alloc_new (wc.drew.alloc (.cells #[sV (carr jt)] 9)) (.cells #[sV (carr it)] 9); rw [World.size_alloc] at h9; exact h9))) (fun u hu => by simp at hu; subst hu; rfl) (by omega) (by unfold maxLen; omega) (by omega) (by first | omega | (simp <;> omega)) _ rfl ?_
    intro g2 d2 v2 own2 hg2 hat2 hlt2
    have HG2 : Hid (Grew w.heap.size wc v2 9 a'.lB b'.lB g1 d1 g2 d2 (it.labs.length + 1) (jt.labs.length + 1) (it.labs.map sV ++ [sV (carr jt)]) (jt.labs.map sV ++ [sV (carr it)])) := grew_two HG1.out x33 hb9 own2 hg2 hat2 (Nat.le_refl _)
    have hcg := HG2.out.chg
    have f1 : v2.frozen? ⟨a.b, 8, none⟩ = false := frozen_row ((hcg.block _ hab hnA).trans lA) 8
    have f2 : v2.frozen? ⟨b.b, 8, none⟩ = false := frozen_row ((hcg.block _ hbb hnB).trans lB) 8
    clear own2 hg2 hat2 hlt2 hzs hcg
    refine hK.out _ _ (HST.out _ HG2.out.chg) (fun hHeld => ?_)
    clear hK K
    try simp only [LY]
    refine puL 18 ?_
    try simp only [LY]
    refine puL 19 ?_
    try simp only [LY]
    refine puL 20 ?_
    try simp only [LY]
    refine wpAnyL_store (by kernel_rfl) rfl (fun K hK => ?_)
    go_simp
    refine hK.out _ _ ?_
    clear hK K
    try simp only [LY]
    refine ta0 22 ?_
    try simp only [LY]
    refine ta0 23 ?_
    try simp only [LY]
    refine ta0 24 ?_
    try simp only [LY]
    refine wpAny_ready (rs := [25]) (by kernel_rfl) (by simp) ?_
    refine AllReady.cons rfl (fun K hK => ?_) AllReady.nil
    go_simp
    refine hK _ _ ?_
    clear hK K
    try simp only [LY]
    refine wpAny_done (by kernel_rfl) ?_ _
    refine NoPanic.normal ?_
    go_wp2_with fail
    go_meet
    have h9 := Two.labs HT1.out.ina HT1.out.inb HT1.out.nodup HG2.out
    rw [HSA.out, HSB.out] at h9
    exact ⟨_, _, HT1.out.trans h9⟩
  case rl2 =>
   go_simp
   refine hK.out _ _ (HST.out _ (HBC.out _ (((HD0.out).alloc (HD0.out).size _)))) (fun hHeld => ?_)
   clear hK K
   try simp only [LY]
   refine reL 8 (fun K hK => ?_)
   go_simp
   refine hK.out _ _ (HST.out _ (HBC.out _ (((((HD0.out).alloc (HD0.out).size _)).alloc (((HD0.out).alloc (HD0.out).size _)).size _)))) (fun hHeld => ?_)
   clear hK K
   try simp only [LY]
   refine reL 9 (fun K hK => ?_)
   refine step_append_lies _ (by rfl) (.tmp 89) (.tmp 91) _ (by rfl) w.heap.size 9 s0 _ 1 16 Tryz.underlying23 hs0 hsa hsb hsc rfl (by omega) (.slice (some ⟨a'.lB, 0, none⟩) it.labs.length a'.lC) it.labs.length (it.labs.map sV) (by rfl) (((HAR.out.drew).alloc _).alloc _) _ 1 1 [sV (carr jt)] (by rfl) rfl (news_of (by have h9 := heap_alloc_new (wc.drew.alloc (.cells #[sV (carr it)] 9)) (.cells #[sV (carr jt)] 9); rw [World.size_alloc] at h9; exact h9)) (fun u hu => by simp at hu; subst hu; rfl) (by omega) (by unfold maxLen; omega) (by omega) (by first | omega | (simp <;> omega)) _ rfl ?_
   intro g1 d1 v1 own1 hg1 hat1 hlt1
   have HGW := Lib.hid hg1
   have HG1 : Hid (Grew1 w.heap.size wc v1 9 a'.lB g1 d1 (it.labs.length + 1) (it.labs.map sV ++ [sV (carr jt)])) := grew_one (((((HD0.out).alloc (HD0.out).size _)).alloc (((HD0.out).alloc (HD0.out).size _)).size _)) own1 hg1 hat1 (by first | omega | (simp <;> omega))
   clear own1 hg1 hat1 hlt1
   refine hK.out _ _ (HST.out _ ((HG1.out).chg.mono (fun x hx => by simp at hx ⊢; exact .inl hx))) (fun hHeld => ?_)
   clear hK K
   try simp only [LY]
   refine reL 17 (fun K hK => ?_)
   have hzs := HG1.out.chg.size
   refine step_append_lies _ (by rfl) (.tmp 97) (.tmp 99) _ (by rfl) w.heap.size 9 s0 _ 1 16 Tryz.underlying23 hs0 hsa hsb hsc rfl (by omega) (.slice (some ⟨b'.lB, 0, none⟩) jt.labs.length b'.lC) jt.labs.length (jt.labs.map sV) (by rfl) (own_chg HBR.out HG1.out.chg (fun x hx => by cases hx; simpa using x33.symm)) _ 1 1 [sV (carr it)] (by rfl) rfl (news_of ((HGW.out.block _ (by first | omega | (simp <;> omega)) (fun e => absurd (Option.some.inj e) (by first | omega | (simp <;> omega)))).trans ((Below.heap_alloc _ _ _ (by simp)).trans (heap_alloc_new _ _)))) (fun u hu => by simp at hu; subst hu; rfl) (by omega) (by unfold maxLen; omega) (by omega) (by first | omega | (simp <;> omega)) _ rfl ?_
   intro g2 d2 v2 own2 hg2 hat2 hlt2
   have HG2 : Hid (Grew w.heap.size wc v2 9 a'.lB b'.lB g1 d1 g2 d2 (it.labs.length + 1) (jt.labs.length + 1) (it.labs.map sV ++ [sV (carr jt)]) (jt.labs.map sV ++ [sV (carr it)])) := grew_two HG1.out x33 hb9 own2 hg2 hat2 (Nat.le_refl _)
   have hcg := HG2.out.chg
   have f1 : v2.frozen? ⟨a.b, 8, none⟩ = false := frozen_row ((hcg.block _ hab hnA).trans lA) 8
   have f2 : v2.frozen? ⟨b.b, 8, none⟩ = false := frozen_row ((hcg.block _ hbb hnB).trans lB) 8
   clear own2 hg2 hat2 hlt2 hzs hcg
   refine hK.out _ _ (HST.out _ HG2.out.chg) (fun hHeld => ?_)
   clear hK K
   try simp only [LY]
   refine puL 18 ?_
   try simp only [LY]
   refine puL 19 ?_
   try simp only [LY]
   refine puL 20 ?_
   try simp only [LY]
   refine wpAnyL_store (by kernel_rfl) rfl (fun K hK => ?_)
   go_simp
   refine hK.out _ _ ?_
   clear hK K
   try simp only [LY]
   refine ta0 22 ?_
   try simp only [LY]
   refine ta0 23 ?_
   try simp only [LY]
   refine ta0 24 ?_
   try simp only [LY]
   refine wpAny_ready (rs := [25]) (by kernel_rfl) (by simp) ?_
   refine AllReady.cons rfl (fun K hK => ?_) AllReady.nil
   go_simp
   refine hK _ _ ?_
   clear hK K
   try simp only [LY]
   refine wpAny_done (by kernel_rfl) ?_ _
   refine NoPanic.normal ?_
   go_wp2_with fail
   go_meet
   have h9 := Two.labs HT1.out.ina HT1.out.inb HT1.out.nodup HG2.out
   rw [HSA.out, HSB.out] at h9
   exact ⟨_, _, HT1.out.trans h9⟩
 case rest =>
 obtain ⟨a2, b2, hT2⟩ := hcut
 have HD5 := Lib.hid (HH4.out.upd2 HI.out.1 HI.out.2.1 HJ.out.1 HJ.out.2.1 HPQ.out hT2 rfl rfl)
 clear HT1 HSA HSB
 have hdi := HD.out it (List.mem_of_getElem? HI.out.1)
 have hdj := HD.out jt (List.mem_of_getElem? HJ.out.1)
 have hps : ((h.items.set p (relabI it (carr jt) d.time)).set q (relabI jt (carr it) d.time)).map (·.post) = h.items.map (·.post) :=
  (posts_set (items := h.items.set p (relabI it (carr jt) d.time)) (k := q) (it := jt) (it' := relabI jt (carr it) d.time) (by rw [List.getElem?_set, if_neg HPQ.out]; exact HJ.out.1) rfl).trans (posts_set (items := h.items) (k := p) (it := it) (it' := relabI it (carr jt) d.time) HI.out.1 rfl)
 obtain ⟨dA, tA⟩ := DecW.relab (h' := { h with items := (h.items.set p (relabI it (carr jt) d.time)).set q (relabI jt (carr it) d.time) }) hdi hdj hps (HBB.out it (List.mem_of_getElem? HI.out.1)) HT.out
 have gA : ((h.items.set p (relabI it (carr jt) d.time)).set q (relabI jt (carr it) d.time))[p]? = some (relabI it (carr jt) d.time) := by
  rw [List.getElem?_set, if_neg (fun e => HPQ.out e.symm), List.getElem?_set, if_pos rfl, if_pos (List.getElem?_eq_some_iff.1 HI.out.1).1]
 have gB : ((A.its.set p a2).set q b2)[p]? = some a2 := by
  rw [List.getElem?_set, if_neg (fun e => HPQ.out e.symm), List.getElem?_set, if_pos rfl, if_pos (List.getElem?_eq_some_iff.1 HI.out.2.1).1]
 have HCA : Hid (Calls Tryz.prog 101 #[.pointer (some ⟨A.hb, 0, none⟩), .pointer (some ⟨a2.b, 0, none⟩)] wc fun e W'' => e = .returned (.tuple #[]) /\ WdH w W'' n nx nxA nxC { h with items := (h.items.set p (decideI n nx h.canc (toLab h.items (carr jt)) (relabI it (carr jt) d.time))).set q (relabI jt (carr it) d.time) } { A with its := (A.its.set p a2).set q b2 }) := by
  refine (decide_any w wc n nx nxA nxC _ _ p _ a2 hS HF.out HD5.out gA gB dA).mono ?_
  rintro e W'' ⟨rfl, hs⟩
  refine ⟨rfl, ?_⟩
  have h6 := HD5.out.upd gA gB hs rfl
  rw [set_same gB] at h6
  dsimp only at h6
  rw [tA, List.set_comm _ _ (fun e => HPQ.out e.symm), List.set_set] at h6
  exact h6
 have HQ : Hid (a2.b = a.b /\ b2.b = b.b) := ⟨hT2.sa, hT2.sb⟩
 clear dA tA gA gB hdi hdj hps hT2
 rw [HQ.out.1] at HCA
 go_wp2_with fail
 refine HCA.out.mono ?_
 rintro e w6 ⟨rfl, hw⟩
 have HD6 := Lib.hid hw
 clear hw HCA HD5
 have hdi := HD.out it (List.mem_of_getElem? HI.out.1)
 have hdj := HD.out jt (List.mem_of_getElem? HJ.out.1)
 have hps : ((h.items.set p (decideI n nx h.canc (toLab h.items (carr jt)) (relabI it (carr jt) d.time))).set q (relabI jt (carr it) d.time)).map (·.post) = h.items.map (·.post) :=
  (posts_set (items := h.items.set p (decideI n nx h.canc (toLab h.items (carr jt)) (relabI it (carr jt) d.time))) (k := q) (it := jt) (it' := relabI jt (carr it) d.time) (by rw [List.getElem?_set, if_neg HPQ.out]; exact HJ.out.1) rfl).trans (posts_set (items := h.items) (k := p) (it := it) (it' := decideI n nx h.canc (toLab h.items (carr jt)) (relabI it (carr jt) d.time)) HI.out.1 rfl)
 obtain ⟨dB, tB⟩ := DecW.relab (h' := { h with items := (h.items.set p (decideI n nx h.canc (toLab h.items (carr jt)) (relabI it (carr jt) d.time))).set q (relabI jt (carr it) d.time) }) hdj hdi hps (HBB.out jt (List.mem_of_getElem? HJ.out.1)) HT.out
 have gA : ((h.items.set p (decideI n nx h.canc (toLab h.items (carr jt)) (relabI it (carr jt) d.time))).set q (relabI jt (carr it) d.time))[q]? = some (relabI jt (carr it) d.time) := by
  rw [List.getElem?_set, if_pos rfl, if_pos (by rw [List.length_set]; exact (List.getElem?_eq_some_iff.1 HJ.out.1).1)]
 have gB : ((A.its.set p a2).set q b2)[q]? = some b2 := by
  rw [List.getElem?_set, if_pos rfl, if_pos (by rw [List.length_set]; exact (List.getElem?_eq_some_iff.1 HJ.out.2.1).1)]
 have HCB : Hid (Calls Tryz.prog 101 #[.pointer (some ⟨A.hb, 0, none⟩), .pointer (some ⟨b2.b, 0, none⟩)] w6 fun e W'' => e = .returned (.tuple #[]) /\ ∃ A', WdH w W'' n nx nxA nxC (actR n nx h d) A' /\ A'.core = A.core) := by
  refine (decide_any w w6 n nx nxA nxC _ _ q _ b2 hS HF.out HD6.out gA gB dB).mono ?_
  rintro e W'' ⟨rfl, hs⟩
  refine ⟨rfl, { A with its := (A.its.set p a2).set q b2 }, ?_, rfl⟩
  have h6 := HD6.out.upd gA gB hs rfl
  rw [set_same gB] at h6
  dsimp only at h6
  rw [tB, List.set_set] at h6
  rw [HAC.out, HM.out]
  exact h6
 clear dB tB gA gB hdi hdj hps
 rw [HQ.out.2] at HCB
 go_wp2_with fail
 refine HCB.out.mono ?_
 rintro e w7 ⟨rfl, hw⟩
 have HWW := Lib.hid hw
 clear hw HCB HD6
 go_wp2_with fail
 exact bodyPost_end (results_none rfl _ _ _) rfl ⟨rfl, HWW.out⟩
end Go.Proofs.YtpeaiphdkgifaaaGreatDoor
