/-
  The walk over the law's first: a first time of a minute is one.
-/
import Derived.Test.YtldkmljjmnaefaaGreatDoorPp
import Derived.BigRegion
namespace Go.Proofs.YtldkmljjmnaefaaGreatDoor
open Go.RowKit

abbrev calO (c : Cal) : Obj := .cells #[iV c.zone, .slice c.wA c.week.length c.wc, .slice c.hA c.hol.length c.hc] 72
set_option maxHeartbeats 8000000 in
set_option maxRecDepth 100000 in
theorem lawfirst_any (n : Net) (o : Nat) (m fr x : Int) (w : World) (hn : NetIn w n) (hG : Good n) (ho : o < n.offs.length) (hm1 : 0 ≤ m) (hm2 : m < 1440) (hf1 : 0 ≤ fr) (hf2 : fr ≤ 3000000) (hx : firstR (calAt n o) m fr = (x, 0)) :
    Calls Tryz.prog 17 #[netV n, iV o, iV m, iV fr, iV x] w fun e w' => e = .returned (.bool true) ∧ Below w.heap.size w w' := by
  obtain ⟨ci, h2, h3, hv⟩ := hG.calAt ho
  have hb0 := ba w (netO n)
  have hx0 := heap_alloc_new w (netO n)
  have HNP : Hid (NetP (w.alloc (netO n)) w.heap.size n) := ⟨fun i v hv => (cell_of_row _ _ _ _ _ _ hx0).trans hv, hn.below hb0⟩
  have HB0 := Lib.hid hb0
  have hxr := firstR_in hm1 hm2 hx
  obtain ⟨D, hxD, hw, hle, hall, -⟩ := firstR_day hm1 hm2 hx
  obtain ⟨zz1, zz2, -⟩ := calB_zone hv
  have HV := Lib.hid hv
  have hD : D = dayOf (calAt n o) x := by unfold dayOf; rw [hxD]; unfold timeOf; omega
  have HM : Hid (minOf (calAt n o) x = m) := by show _ = _; unfold minOf; rw [hxD]; unfold timeOf; omega
  have hDr : -1000000 ≤ D ∧ D ≤ 1000000 := by rw [hxD] at hxr; unfold timeOf at hxr; omega
  have HDD := Lib.hid hD
  have HW : Hid ((calB (calAt n o) && dayR D && workB (calAt n o) D) = true) := by show _ = _; rw [hv, hw]; unfold dayR; simp [hDr.1, hDr.2]
  have HALL := Lib.hid hall
  have HCI := Lib.hid h2
  have HCC := Lib.hid (HNP.out.net.cal _ (List.mem_of_getElem? h3))
  clear hn hb0 hx0 hx hxD hw hall hv hD h2
  go_enter Tryz.func17, Tryz.ntmps17
  go_upto_region 1 with fail
  change Code.wp _ _ _ _ (w.alloc (netO n))
  generalize (w.alloc (netO n)) = W at *
  generalize hX : w.heap.size = X at *
  have HX := Lib.hid hX; clear hX
  have HNB : Hid (∀ wr, Below W.heap.size W wr → Below w.heap.size w wr) := fun wr hb => by have h := HB0.out; rw [← HX.out] at h; exact bt h hb
  obtain ⟨-, ob, oo, hoA, hob, -, hoc⟩ := elem_at encOff_len HNP.out.net.offs (offAt_get ho) (by omega)
  obtain ⟨hc, cb, co, hcA, hcb, hc0, hcc⟩ := elem_at encCal_len HNP.out.net.cals h3 (by omega)
  have n0 : W.cell? ⟨X, 0, none⟩ = some (.slice n.calA n.cals.length n.calC) := HNP.out.box 0 _ rfl
  have n3 : W.cell? ⟨X, 3, none⟩ = some (.slice n.offA n.offs.length n.offC) := HNP.out.box 3 _ rfl
  have o2 : W.cell? ⟨ob, oo + o * 7 + 2, none⟩ = some (iV ci) := (hoc 2 _ rfl).trans (by rw [← HCI.out])
  have c0 : W.cell? ⟨cb, co + ci * 3, none⟩ = some (iV (calAt n o).zone) := hc0 _ rfl
  have c1 : W.cell? ⟨cb, co + ci * 3 + 1, none⟩ = some (.slice (calAt n o).wA (calAt n o).week.length (calAt n o).wc) := hcc 1 _ rfl
  have c2 : W.cell? ⟨cb, co + ci * 3 + 2, none⟩ = some (.slice (calAt n o).hA (calAt n o).hol.length (calAt n o).hc) := hcc 2 _ rfl
  rw [hoA] at n3
  rw [hcA] at n0
  have j1 : (0 : Int) ≤ (o : Int) := by omega
  have j2 : (o : Int) < (n.offs.length : Int) := by omega
  have j3 : (0 : Int) ≤ (ci : Int) := by omega
  have j4 : (ci : Int) < (n.cals.length : Int) := by omega
  have hbz := ba W (.cells #[iV 0, .slice none 0 0, .slice none 0 0] 72)
  have hzn := heap_alloc_new W (.cells #[iV 0, .slice none 0 0, .slice none 0 0] 72)
  have m0 : (W.alloc (.cells #[iV 0, .slice none 0 0, .slice none 0 0] 72)).cell? ⟨X, 0, none⟩ = some (.slice (some ⟨cb, co, none⟩) n.cals.length n.calC) := (hbz.cell (p := ⟨X, 0, none⟩) HNP.out.lt).trans n0
  have m3 : (W.alloc (.cells #[iV 0, .slice none 0 0, .slice none 0 0] 72)).cell? ⟨X, 3, none⟩ = some (.slice (some ⟨ob, oo, none⟩) n.offs.length n.offC) := (hbz.cell (p := ⟨X, 3, none⟩) HNP.out.lt).trans n3
  have q2 : (W.alloc (.cells #[iV 0, .slice none 0 0, .slice none 0 0] 72)).cell? ⟨ob, oo + o * 7 + 2, none⟩ = some (iV ci) := (hbz.cell (p := ⟨ob, _, none⟩) hob).trans o2
  have d0 : (W.alloc (.cells #[iV 0, .slice none 0 0, .slice none 0 0] 72)).cell? ⟨cb, co + ci * 3, none⟩ = some (iV (calAt n o).zone) := (hbz.cell (p := ⟨cb, _, none⟩) hcb).trans c0
  have d1 : (W.alloc (.cells #[iV 0, .slice none 0 0, .slice none 0 0] 72)).cell? ⟨cb, co + ci * 3 + 1, none⟩ = some (.slice (calAt n o).wA (calAt n o).week.length (calAt n o).wc) := (hbz.cell (p := ⟨cb, _, none⟩) hcb).trans c1
  have d2 : (W.alloc (.cells #[iV 0, .slice none 0 0, .slice none 0 0] 72)).cell? ⟨cb, co + ci * 3 + 2, none⟩ = some (.slice (calAt n o).hA (calAt n o).hol.length (calAt n o).hc) := (hbz.cell (p := ⟨cb, _, none⟩) hcb).trans c2
  have z0 : (W.alloc (.cells #[iV 0, .slice none 0 0, .slice none 0 0] 72)).cell? ⟨W.heap.size, 0, none⟩ = some (iV 0) := cell_of_row _ _ 0 _ _ _ hzn
  have z1 : (W.alloc (.cells #[iV 0, .slice none 0 0, .slice none 0 0] 72)).cell? ⟨W.heap.size, 1, none⟩ = some (.slice none 0 0) := cell_of_row _ _ 1 _ _ _ hzn
  have z2 : (W.alloc (.cells #[iV 0, .slice none 0 0, .slice none 0 0] 72)).cell? ⟨W.heap.size, 2, none⟩ = some (.slice none 0 0) := cell_of_row _ _ 2 _ _ _ hzn
  have y0 : (W.alloc (.cells #[iV 0, .slice none 0 0, .slice none 0 0] 72)).frozen? ⟨W.heap.size, 0, none⟩ = false := frozen_row hzn 0
  have y1 : (W.alloc (.cells #[iV 0, .slice none 0 0, .slice none 0 0] 72)).frozen? ⟨W.heap.size, 1, none⟩ = false := frozen_row hzn 1
  have y2 : (W.alloc (.cells #[iV 0, .slice none 0 0, .slice none 0 0] 72)).frozen? ⟨W.heap.size, 2, none⟩ = false := frozen_row hzn 2
  have HZN := Lib.hid hzn
  clear hoc hc0 hcc hoA hcA h3 hcb hob hbz hzn
  generalize calAt n o = C at *
  go_region
  have HYR : Hid (((W.alloc (calO C)).drew).heap[W.heap.size]? = some (calO C)) := heap_alloc_new _ _
  have HB1 : Hid (Below W.heap.size W ((W.alloc (calO C)).drew)) := b_drew (ba _ _)
  change Exit.then _ _ _ _ ((W.alloc (calO C)).drew)
  clear m0 m3 q2 d0 d1 d2 z0 z1 z2 y0 y1 y2 HZN n0 n3 o2 c0 c1 c2
  generalize ((W.alloc (calO C)).drew) = W1 at *
  generalize hYY : W.heap.size = Y at *
  have HYY := Lib.hid hYY; clear hYY
  have HST : Hid (∀ wr, Below W1.heap.size W1 wr → CalIn wr C ∧ Below Y W wr ∧ wr.cell? ⟨Y, 0, none⟩ = some (iV C.zone) ∧ wr.cell? ⟨Y, 1, none⟩ = some (.slice C.wA C.week.length C.wc) ∧ wr.cell? ⟨Y, 2, none⟩ = some (.slice C.hA C.hol.length C.hc)) := fun wr hb => by
    have hr := (hb.block _ (block_lt HYR.out)).trans HYR.out
    have hbw : Below Y W wr := HB1.out.trans (hb.mono (by have h1 := HB1.out.size; rw [HYY.out] at h1; exact h1))
    refine ⟨HCC.out.below (by rw [HYY.out]; exact hbw), hbw, cell_of_row _ _ 0 _ _ _ hr, cell_of_row _ _ 1 _ _ _ hr, cell_of_row _ _ 2 _ _ _ hr⟩
  obtain ⟨-, -, y0, y1, y2⟩ := HST.out _ (Below.refl _ _)
  have hbd : dayOf C fr ≤ D := by rw [HDD.out]; unfold dayOf; omega
  have hb0r : -1000000 ≤ dayOf C fr := by unfold dayOf; omega
  have HBD := Lib.hid hbd; clear hbd
  have HB0R := Lib.hid hb0r; clear hb0r
  go_wp2_with fail
  refine (local_any C x _ (HST.out _ (Below.refl _ _)).1 HV.out (by omega) (by omega)).mono ?_
  rintro e w2 ⟨rfl, hb⟩
  rw [HM.out, ← HDD.out]
  have HB2 := Lib.hid hb
  clear hb y0 y1 y2
  obtain ⟨-, -, y0, y1, y2⟩ := HST.out _ HB2.out
  have e1 : ¬ x < fr := by omega
  go_wp2_with fail
  refine (work_any C D _ (HST.out _ HB2.out).1 (by constructor <;> omega)).mono ?_
  rintro e w3 ⟨rfl, hb⟩
  rw [HW.out]
  have HB3 := Lib.hid (bt HB2.out hb)
  clear hb y0 y1 y2
  obtain ⟨-, -, y0, y1, y2⟩ := HST.out _ HB3.out
  go_wp2_with fail
  refine (local_any C fr _ (HST.out _ HB3.out).1 HV.out (by omega) (by omega)).mono ?_
  rintro e w4 ⟨rfl, hb⟩
  have HB4 := Lib.hid (bt HB3.out hb)
  clear hb y0 y1 y2
  go_wp2_with fail
  go_loopw [16] (fun i wr => ∃ E : Int, dayOf C fr ≤ E ∧ E ≤ D ∧ i = iV E ∧ Hid (Below W1.heap.size W1 wr)) (fun i _ => (D - intOf i).toNat)
  case atStart => exact ⟨_, Int.le_refl _, HBD.out, rfl, HB4.out⟩
  case round =>
  obtain ⟨E, hE1, hE2, rfl, HB⟩ := hrel
  obtain ⟨-, -, y0, y1, y2⟩ := HST.out _ HB.out
  by_cases hlt : E < D
  case neg =>
    go_wp2_with fail
    go_ret
    exact ⟨rfl, HNB.out _ (HST.out _ HB.out).2.1⟩
  have hEr : -1000000 ≤ E ∧ E ≤ 1000000 := by have := HB0R.out; omega
  have HER := Lib.hid hEr
  go_wp2_with fail
  refine (work_any C E _ (HST.out _ HB.out).1 (by constructor <;> omega)).mono ?_
  rintro e w5 ⟨rfl, hb⟩
  have HB5 := Lib.hid (bt HB.out hb)
  clear hb y0 y1 y2
  obtain ⟨-, -, y0, y1, y2⟩ := HST.out _ HB5.out
  have hdr : dayR E = true := by unfold dayR; simp [HER.out.1, HER.out.2]
  rw [HV.out, hdr, Bool.true_and, Bool.true_and]
  clear hdr
  cases hwb : workB C E
  case false =>
    go_wp2_with fail
    go_roundw
    case rel => exact ⟨E + 1, by omega, by omega, by go_num, HB5.out⟩
    case measure => simp [intOf]; omega
  have g1 : ¬ fr ≤ timeOf C E m := by have := HALL.out E hlt hwb; omega
  have HG1 := Lib.hid g1; clear g1
  clear hwb
  go_wp2_with fail
  refine (time_any C E m _ (HST.out _ HB5.out).1 HV.out (by unfold dayR; simp [HER.out.1, HER.out.2]) hm1 hm2).mono ?_
  rintro e w6 ⟨rfl, hb⟩
  have HB6 := Lib.hid (bt HB5.out hb)
  clear hb y0 y1 y2
  have g1 := HG1.out
  go_wp2_with fail
  go_roundw
  case rel => exact ⟨E + 1, by omega, by omega, by go_num, HB6.out⟩
  case measure => simp [intOf]; omega
end Go.Proofs.YtldkmljjmnaefaaGreatDoor
