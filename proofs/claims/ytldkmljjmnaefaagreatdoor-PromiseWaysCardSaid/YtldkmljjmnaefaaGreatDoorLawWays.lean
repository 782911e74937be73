/-
  The walk over PromiseWays. (Printed by gen_ways.py.)
-/
import Derived.Test.YtldkmljjmnaefaaGreatDoorProRow
import Derived.Test.YtldkmljjmnaefaaGreatDoorTimDep
namespace Go.Proofs.YtldkmljjmnaefaaGreatDoor
open Go.RowKit

set_option maxHeartbeats 8000000 in
set_option maxRecDepth 100000 in
theorem ways_any (n : Net) (A : Option Addr) (c : Nat) (nx : List NsC) (a b x y : Nat) (w : World) (hn : NetIn w n) (hT : Tab w A nx) (hx : nx.length ≤ maxLen) (hk : KW w) (ba1 : a < 256) (bb1 : b < 256) (bx1 : x < 4294967296) (by1 : y < 4294967296) :
    Calls Tryz.prog 7 #[netV n, .slice A nx.length c, .int .u8 a, .int .u8 b, .int .u32 x, .int .u32 y] w fun e w' => e = .returned (.bool true) ∧ Below w.heap.size w w' := by
  have hb0 := ba w (netO n)
  have hx0 := heap_alloc_new w (netO n)
  have HNP : Hid (NetP (w.alloc (netO n)) w.heap.size n) := ⟨fun i v hv => (cell_of_row _ _ _ _ _ _ hx0).trans hv, hn.below hb0⟩
  have HT := Lib.hid (hT.below hb0)
  have HK := Lib.hid (hk.below hb0)
  have HXL := Lib.hid hx
  have HB0 := Lib.hid hb0
  clear hn hT hk hx hb0 hx0
  go_enter Tryz.func7, Tryz.ntmps7
  go_upto_region 1 with fail
  change Code.wp _ _ _ _ (w.alloc (netO n))
  generalize (w.alloc (netO n)) = W at *
  generalize hX : w.heap.size = X at *
  have HX := Lib.hid hX; clear hX
  have HNB : Hid (∀ wr, Below W.heap.size W wr → Below w.heap.size w wr) := fun wr hb => by have h := HB0.out; rw [← HX.out] at h; exact bt h hb
  go_wp2_with fail
  refine (head_any _ HK.out).mono ?_
  rintro e w1 ⟨rfl, hb⟩
  have HB1 := Lib.hid hb
  clear hb
  have n0 : w1.cell? ⟨X, 0, none⟩ = some (.slice n.calA n.cals.length n.calC) := (HNP.out.below HB1.out).box 0 _ rfl
  have n1 : w1.cell? ⟨X, 1, none⟩ = some (.slice n.namA n.names.length n.namC) := (HNP.out.below HB1.out).box 1 _ rfl
  have n2 : w1.cell? ⟨X, 2, none⟩ = some (.slice n.opA n.ops.length n.opC) := (HNP.out.below HB1.out).box 2 _ rfl
  have n3 : w1.cell? ⟨X, 3, none⟩ = some (.slice n.offA n.offs.length n.offC) := (HNP.out.below HB1.out).box 3 _ rfl
  have n4 : w1.cell? ⟨X, 4, none⟩ = some (.slice n.linA n.lins.length n.linC) := (HNP.out.below HB1.out).box 4 _ rfl
  have n5 : w1.cell? ⟨X, 5, none⟩ = some (.slice n.clsA n.clss.length n.clsC) := (HNP.out.below HB1.out).box 5 _ rfl
  go_wp2_with fail
  refine (right_any n A c nx _ (HNP.out.below HB1.out).net (HT.out.below HB1.out) HXL.out).mono ?_
  rintro e w2 ⟨⟨b1, rfl, h1⟩, hb⟩
  have H1 := Lib.hid h1
  have HB2 := Lib.hid (bt HB1.out hb)
  clear h1 hb n0 n1 n2 n3 n4 n5
  cases b1
  · go_wp2_with fail
    go_ret
    exact ⟨rfl, HNB.out _ HB2.out⟩
  have HP : Hid (RightP n nx) := H1.out rfl
  clear H1
  obtain ⟨-, -, N0, N6⟩ := HP.out
  have HS : Hid (Sound n) := HP.out.1
  have HF : Hid (Formed n nx) := HP.out.2.1
  obtain ⟨o, ho⟩ : ∃ o, o = a % n.offs.length := ⟨_, rfl⟩
  obtain ⟨d, hd⟩ : ∃ d, d = b % n.offs.length := ⟨_, rfl⟩
  obtain ⟨t, ht⟩ : ∃ t, t = x % 100001 := ⟨_, rfl⟩
  obtain ⟨u, hu⟩ : ∃ u, u = y % 100001 := ⟨_, rfl⟩
  have ho1 : o < n.offs.length := by rw [ho]; exact Nat.mod_lt _ N0
  have hd1 : d < n.offs.length := by rw [hd]; exact Nat.mod_lt _ N0
  have ht1 : t ≤ 100000 := by omega
  have hu1 : u ≤ 100000 := by omega
  have mo : Int.tmod (a : Int) (n.offs.length : Int) = (o : Int) := by rw [ho]; exact mod_nat _ _
  have md : Int.tmod (b : Int) (n.offs.length : Int) = (d : Int) := by rw [hd]; exact mod_nat _ _
  have mt : Int.tmod (x : Int) 100001 = (t : Int) := by rw [ht]; exact mod_nat x 100001
  have mu : Int.tmod (y : Int) 100001 = (u : Int) := by rw [hu]; exact mod_nat y 100001
  have wa : IntKind.i64.wrap (a : Int) = (a : Int) := IntWalk.i64_in _ (by omega)
  have wb : IntKind.i64.wrap (b : Int) = (b : Int) := IntWalk.i64_in _ (by omega)
  have wx : IntKind.i64.wrap (x : Int) = (x : Int) := IntWalk.i64_in _ (by omega)
  have wy : IntKind.i64.wrap (y : Int) = (y : Int) := IntWalk.i64_in _ (by omega)
  have no1 : (n.offs.length : Int) ≠ 0 := by omega
  have no2 : ¬ (n.offs.length : Int) = 0 := no1
  clear ht hu ho hd
  have HW1 := Lib.hid (wayTop_eq HS.out HF.out ho1 hd1 (t := (t : Int)) (by omega) (by omega))
  have HW2 := Lib.hid (wayTop_eq HS.out HF.out ho1 hd1 (t := (u : Int)) (by omega) (by omega))
  have HLN : Hid ((wayR n nx d 19 o (t : Int)).1 ≠ 0 → (wayR n nx d 19 o (t : Int)).2 = []) := wayR_nil n nx d 19 o (t : Int)
  have HOK : Hid ((wayR n nx d 19 o (t : Int)).1 = 0 → WayOk n nx d o (t : Int) (wayR n nx d 19 o (t : Int)).2 ∧ (wayR n nx d 19 o (t : Int)).2.length ≤ 20) := wayR_ok 19 o (t : Int)
  have HRT := Lib.hid (wayR_route HS.out.1.good HF.out hd1 19 o (t : Int) (u : Int) ho1)
  rw [← HW1.out] at HLN HOK
  rw [← HW1.out, ← HW2.out] at HRT
  have HOL : Hid (o < n.offs.length ∧ d < n.offs.length) := ⟨ho1, hd1⟩
  clear HW1 HW2
  have n0 : w2.cell? ⟨X, 0, none⟩ = some (.slice n.calA n.cals.length n.calC) := (HNP.out.below HB2.out).box 0 _ rfl
  have n1 : w2.cell? ⟨X, 1, none⟩ = some (.slice n.namA n.names.length n.namC) := (HNP.out.below HB2.out).box 1 _ rfl
  have n2 : w2.cell? ⟨X, 2, none⟩ = some (.slice n.opA n.ops.length n.opC) := (HNP.out.below HB2.out).box 2 _ rfl
  have n3 : w2.cell? ⟨X, 3, none⟩ = some (.slice n.offA n.offs.length n.offC) := (HNP.out.below HB2.out).box 3 _ rfl
  have n4 : w2.cell? ⟨X, 4, none⟩ = some (.slice n.linA n.lins.length n.linC) := (HNP.out.below HB2.out).box 4 _ rfl
  have n5 : w2.cell? ⟨X, 5, none⟩ = some (.slice n.clsA n.clss.length n.clsC) := (HNP.out.below HB2.out).box 5 _ rfl
  go_wp2_with fail
  refine (way_any n A c nx o d t _ (HNP.out.below HB2.out).net (HT.out.below HB2.out) HXL.out (HK.out.below HB2.out)).mono ?_
  rintro e w3 ⟨hb, A1, c1, rfl, hr1⟩
  have HB3 := Lib.hid (bt HB2.out hb)
  clear hb n0 n1 n2 n3 n4 n5
  have HR1 := Lib.hid hr1; clear hr1
  have n0 : w3.cell? ⟨X, 0, none⟩ = some (.slice n.calA n.cals.length n.calC) := (HNP.out.below HB3.out).box 0 _ rfl
  have n1 : w3.cell? ⟨X, 1, none⟩ = some (.slice n.namA n.names.length n.namC) := (HNP.out.below HB3.out).box 1 _ rfl
  have n2 : w3.cell? ⟨X, 2, none⟩ = some (.slice n.opA n.ops.length n.opC) := (HNP.out.below HB3.out).box 2 _ rfl
  have n3 : w3.cell? ⟨X, 3, none⟩ = some (.slice n.offA n.offs.length n.offC) := (HNP.out.below HB3.out).box 3 _ rfl
  have n4 : w3.cell? ⟨X, 4, none⟩ = some (.slice n.linA n.lins.length n.linC) := (HNP.out.below HB3.out).box 4 _ rfl
  have n5 : w3.cell? ⟨X, 5, none⟩ = some (.slice n.clsA n.clss.length n.clsC) := (HNP.out.below HB3.out).box 5 _ rfl
  go_wp2_with fail
  refine (way_any n A c nx o d u _ (HNP.out.below HB3.out).net (HT.out.below HB3.out) HXL.out (HK.out.below HB3.out)).mono ?_
  rintro e w4 ⟨hb, A2, c2, rfl, hr2⟩
  have HB4 := Lib.hid (bt HB3.out hb)
  have HR1' := Lib.hid (HR1.out.below hb)
  clear hb n0 n1 n2 n3 n4 n5
  have HR2 := Lib.hid hr2; clear hr2
  clear HR1
  generalize wayTop n nx (o : Int) (d : Int) (t : Int) = r1 at *
  generalize wayTop n nx (o : Int) (d : Int) (u : Int) = r2 at *
  obtain ⟨e1, l1⟩ := r1
  obtain ⟨e2, l2⟩ := r2
  dsimp only at *
  by_cases h1 : e1 = 0
  case neg =>
    have hn1 : (e1 != 0) = true := by simpa using h1
    have hl1 : l1 = [] := HLN.out h1
    have hz : (((l1.length : Nat) : Int) == 0) = true := by rw [hl1]; rfl
    clear hl1 h1
    go_wp2_with fail
    go_ret
    exact ⟨rfl, HNB.out _ HB4.out⟩
  subst h1
  obtain ⟨hok, hl20⟩ := HOK.out rfl
  have HWK := Lib.hid hok
  obtain ⟨s0, hs0, a1, a2⟩ := way_head hok
  obtain ⟨s9, hs9, b1, b2, b3⟩ := way_last hok
  have HRR := HRT.out rfl
  have h170 : (e2 == 170) = false := by rw [beq_eq_false_iff_ne]; exact HRR.1
  have HAL := Lib.hid HRR.2
  clear HRR HRT HOK HLN hok
  obtain ⟨m, hm⟩ : ∃ m, l1.length = m + 1 := ⟨l1.length - 1, by have := (List.getElem?_eq_some_iff.1 hs0).1; omega⟩
  rw [hm] at hs9 hl20
  rw [show m + 1 - 1 = m by omega] at hs9
  obtain ⟨-, bb, oo, hA1, hbb, -, hc0⟩ := elem_at encSt_len HR1'.out hs0 (by omega)
  obtain ⟨-, bb', oo', hA1', -, -, hc9⟩ := elem_at encSt_len HR1'.out hs9 (by omega)
  rw [hA1] at hA1'
  obtain ⟨rfl, rfl⟩ : bb = bb' ∧ oo = oo' := by cases hA1'; exact ⟨rfl, rfl⟩
  have x0 : w4.cell? ⟨bb, oo + 0 * 4 + 0, none⟩ = some (iV s0.office) := hc0 0 _ rfl
  have x1 : w4.cell? ⟨bb, oo + 0 * 4 + 1, none⟩ = some (iV s0.arrive) := hc0 1 _ rfl
  have x2 : w4.cell? ⟨bb, oo + m * 4 + 0, none⟩ = some (iV s9.office) := hc9 0 _ rfl
  have x3 : w4.cell? ⟨bb, oo + m * 4 + 2, none⟩ = some (iV s9.depart) := hc9 2 _ rfl
  have x4 : w4.cell? ⟨bb, oo + m * 4 + 3, none⟩ = some (iV s9.line) := hc9 3 _ rfl
  simp only [Nat.zero_mul, Nat.add_zero] at x0 x1 x2
  rw [a1] at x0
  rw [a2] at x1
  rw [b1] at x2
  rw [b2] at x3
  rw [b3] at x4
  have HHM := Lib.hid hm
  have HHA := Lib.hid hA1
  rw [hA1, hm]
  clear hA1' hA1 hc0 hc9 a1 a2 b1 b2 b3 hs0 hs9 hm
  have m0 : (0 : Int) ≤ (m : Int) := by omega
  have m1 : ((m : Int) + 1 == 0) = false := by rw [beq_eq_false_iff_ne]; omega
  have m2 : ¬ (20 : Int) < (m : Int) + 1 := by omega
  have m3 : ¬ (m : Int) + 1 = 0 := by omega
  go_wp2_with fail
  clear x0 x1 x2 x3 x4 m1 m2 m3
  have HNXL : Hid (nx.length = n.offs.length) := HF.out.1
  go_loopw [20] (fun i wr => ∃ j : Nat, j ≤ m ∧ i = iV j ∧ Below w4.heap.size w4 wr) (fun i _ => m + 1 - (intOf i).toNat)
  case atStart => exact ⟨0, by omega, rfl, Below.refl _ _⟩
  case round =>
  obtain ⟨j, hj, rfl, hbr⟩ := hrel
  have HBR := Lib.hid hbr
  have HBX := Lib.hid (HB4.out.trans (hbr.mono HB4.out.size))
  clear hbr
  have j0 : (0 : Int) ≤ (j : Int) := by omega
  by_cases hlt : j < m
  case pos =>
    have HJ := Lib.hid hlt
    have j1 : (j : Int) < (m : Int) := by omega
    have j2 : (j : Int) < (m : Int) + 1 := by omega
    have j3 : (j : Int) + 1 < (m : Int) + 1 := by omega
    have hs1 : l1[j]? = some (l1[j]'(by have := HHM.out; omega)) := List.getElem?_eq_getElem _
    have hs2 : l1[j + 1]? = some (l1[j + 1]'(by have := HHM.out; omega)) := List.getElem?_eq_getElem _
    obtain ⟨so, li, hrow⟩ := way_row HS.out.1.good HF.out HOL.out.2 HOL.out.1 (by omega) HWK.out j _ _ hs1 hs2
    have HR9 := Lib.hid (HR1'.out.below HBR.out)
    obtain ⟨-, bb1, oo1, hA1, hbb1, -, hc1⟩ := elem_at encSt_len HR9.out hs1 (by omega)
    obtain ⟨-, bb2, oo2, hA2, -, -, hc2⟩ := elem_at encSt_len HR9.out hs2 (by omega)
    rw [HHA.out] at hA1 hA2
    obtain ⟨rfl, rfl⟩ : bb = bb1 ∧ oo = oo1 := by cases hA1; exact ⟨rfl, rfl⟩
    obtain ⟨rfl, rfl⟩ : bb = bb2 ∧ oo = oo2 := by cases hA2; exact ⟨rfl, rfl⟩
    generalize (l1[j]'(by have := HHM.out; omega)) = s at *
    generalize (l1[j + 1]'(by have := HHM.out; omega)) = s' at *
    have HROW := Lib.hid hrow
    obtain ⟨eo, elt, ene, eli, enx, ell, efr, eam, etv, edp, ea0, ea1, er0, er1, edd, ed1, eto, earr⟩ := hrow
    have x0 : wr.cell? ⟨bb, oo + j * 4, none⟩ = some (iV s.office) := hc1 0 _ rfl
    have x1 : wr.cell? ⟨bb, oo + j * 4 + 1, none⟩ = some (iV s.arrive) := hc1 1 _ rfl
    have x2 : wr.cell? ⟨bb, oo + j * 4 + 2, none⟩ = some (iV s.depart) := hc1 2 _ rfl
    have x3 : wr.cell? ⟨bb, oo + j * 4 + 3, none⟩ = some (iV s.line) := hc1 3 _ rfl
    rw [eo] at x0
    rw [eli] at x3
    have HS2 := Lib.hid hs2
    clear hA1 hA2 hc1 hc2 hs1 hs2
    have hsx := heap_alloc_new wr (.cells #[iV so, iV s.arrive, iV s.depart, iV li] 39)
    have hbS := ba wr (.cells #[iV so, iV s.arrive, iV s.depart, iV li] 39)
    have HBS4 := Lib.hid (bt HBR.out hbS)
    have HBS := Lib.hid (bt HBX.out hbS)
    have HSX := Lib.hid hsx
    have hTr := HT.out.below HBS.out
    obtain ⟨r, hr, hrl, -⟩ := HF.out.2 so elt
    obtain ⟨hrlt, -⟩ := List.getElem?_eq_some_iff.1 hr
    obtain ⟨nb, no, hnA, -, hnc⟩ := hTr.rd.get (i := so) (by rw [List.length_map]; exact hrlt)
    have y1 := hnc so _ (by rw [List.getElem?_map, hr]; rfl)
    obtain ⟨rb, ro, hrA, -, hrc⟩ := (hTr.row r (List.mem_of_getElem? hr)).1.get (i := d) (by rw [List.length_map, hrl]; exact HOL.out.2)
    have hdl : d < r.ns.length := by rw [hrl]; exact HOL.out.2
    have y2 := hrc d (iV r.ns[d]) (by simp [hdl])
    have hl : r.ns[d] = nxAt nx so d := by unfold nxAt; simp [List.getD, hr, hdl]
    rw [hl, enx] at y2
    unfold slI at y1
    rw [hrA] at y1
    go_upto_region 16 with fail
    change Code.wp _ _ _ _ (wr.alloc (.cells #[iV so, iV s.arrive, iV s.depart, iV li] 39))
    generalize (wr.alloc (.cells #[iV so, iV s.arrive, iV s.depart, iV li] 39)) = WS at *
    generalize wr.heap.size = Z at *
    have z0 : WS.cell? ⟨Z, 0, none⟩ = some (iV so) := cell_of_row _ _ 0 _ _ _ HSX.out
    have z1 : WS.cell? ⟨Z, 1, none⟩ = some (iV s.arrive) := cell_of_row _ _ 1 _ _ _ HSX.out
    have z2 : WS.cell? ⟨Z, 2, none⟩ = some (iV s.depart) := cell_of_row _ _ 2 _ _ _ HSX.out
    have z3 : WS.cell? ⟨Z, 3, none⟩ = some (iV li) := cell_of_row _ _ 3 _ _ _ HSX.out
    have k0 : (0 : Int) ≤ (so : Int) := by omega
    have k1 : ¬ (so : Int) < 0 := by omega
    have k2 : (so : Int) < (nx.length : Int) := by have := HNXL.out; omega
    have k3 : ¬ (nx.length : Int) ≤ (so : Int) := by omega
    have k4 : ((so : Int) == (d : Int)) = false := by rw [beq_eq_false_iff_ne]; omega
    have k5 : (0 : Int) ≤ (d : Int) := by omega
    have k6 : (d : Int) < (r.ns.length : Int) := by omega
    have k7 : ¬ (li : Int) < 0 := by omega
    clear hsx hbS x0 x1 x2 x3 hTr hr hrl hnc hrA hrc hdl hl eo eli hrlt
    subst hnA
    go_quiet (fail)
    have HQS : Hid (Below WS.heap.size WS (WS.drewN nq)) := below_drewN (Below.refl _ _) nq
    generalize WS.drewN nq = W7 at *
    have HB7 := Lib.hid (bt HBS.out HQS.out)
    have HB74 := Lib.hid (bt HBS4.out HQS.out)
    have HZ7 : Hid (W7.heap[Z]? = some (.cells #[iV so, iV s.arrive, iV s.depart, iV li] 39 (0, 0))) := (HQS.out.block _ (block_lt HSX.out)).trans HSX.out
    clear y1 y2 z0 z1 z2 z3 k2 k3 k6
    obtain ⟨ci, hci, hcg, hcb⟩ := HS.out.1.good.calAt HROW.out.lt
    have HREADY : Hid (∀ wr, Below W7.heap.size W7 wr → Calls Tryz.prog 18 #[netV n, iV so, iV s.arrive] wr fun e w' => e = .returned (iV (readyR (offAt n so) s.arrive)) ∧ Below wr.heap.size wr w') := fun wr hb => by
      have h := readytop_any n so s.arrive wr (HNP.out.below (bt HB7.out hb)).net (HK.out.below (bt HB7.out hb))
      rw [readyTop_eq HS.out HROW.out.lt HROW.out.a0 HROW.out.a1] at h
      exact h
    have HDEPART : Hid (∀ wr, Below W7.heap.size W7 wr → Calls Tryz.prog 19 #[netV n, iV li, iV (readyR (offAt n so) s.arrive)] wr fun e w' => e = .returned (.tuple #[iV s.depart, iV 0]) ∧ Below wr.heap.size wr w') := fun wr hb => by
      have h := tdepart_any n li so ci _ _ _ (readyR (offAt n so) s.arrive) wr (HNP.out.below (bt HB7.out hb)).net (HK.out.below (bt HB7.out hb)) HS.out (linAt_get HROW.out.ll) HROW.out.frm (offAt_get HROW.out.lt) hci hcg hcb HROW.out.am.1 HROW.out.am.2 (tOk_of HROW.out.r0 HROW.out.r1)
      rw [HROW.out.dep] at h
      exact h
    clear hci hcg hcb
    have HST : Hid (∀ wr, Below W7.heap.size W7 wr → (fun w' => w'.cell? ⟨X, 0, none⟩ = some (.slice n.calA n.cals.length n.calC) ∧ w'.cell? ⟨X, 1, none⟩ = some (.slice n.namA n.names.length n.namC) ∧ w'.cell? ⟨X, 2, none⟩ = some (.slice n.opA n.ops.length n.opC) ∧ w'.cell? ⟨X, 3, none⟩ = some (.slice n.offA n.offs.length n.offC) ∧ w'.cell? ⟨X, 4, none⟩ = some (.slice n.linA n.lins.length n.linC) ∧ w'.cell? ⟨X, 5, none⟩ = some (.slice n.clsA n.clss.length n.clsC) ∧ w'.cell? ⟨Z, 0, none⟩ = some (iV so) ∧ w'.cell? ⟨Z, 1, none⟩ = some (iV s.arrive) ∧ w'.cell? ⟨Z, 2, none⟩ = some (iV s.depart) ∧ w'.cell? ⟨Z, 3, none⟩ = some (iV li)) wr) := fun wr hb => by
      have hz := (hb.block _ (block_lt HZ7.out)).trans HZ7.out
      have hp := HNP.out.below (bt HB7.out hb)
      exact ⟨hp.box 0 _ rfl, hp.box 1 _ rfl, hp.box 2 _ rfl, hp.box 3 _ rfl, hp.box 4 _ rfl, hp.box 5 _ rfl, cell_of_row _ _ 0 _ _ _ hz, cell_of_row _ _ 1 _ _ _ hz, cell_of_row _ _ 2 _ _ _ hz, cell_of_row _ _ 3 _ _ _ hz⟩
    generalize hrdy : readyR (offAt n so) s.arrive = rdy at *
    go_wp2_with fail
    refine wp_region_noPanic ?_
    refine wp_region_held_drew (S := fun w' => w'.cell? ⟨X, 0, none⟩ = some (.slice n.calA n.cals.length n.calC) ∧ w'.cell? ⟨X, 1, none⟩ = some (.slice n.namA n.names.length n.namC) ∧ w'.cell? ⟨X, 2, none⟩ = some (.slice n.opA n.ops.length n.opC) ∧ w'.cell? ⟨X, 3, none⟩ = some (.slice n.offA n.offs.length n.offC) ∧ w'.cell? ⟨X, 4, none⟩ = some (.slice n.linA n.lins.length n.linC) ∧ w'.cell? ⟨X, 5, none⟩ = some (.slice n.clsA n.clss.length n.clsC) ∧ w'.cell? ⟨Z, 0, none⟩ = some (iV so) ∧ w'.cell? ⟨Z, 1, none⟩ = some (iV s.arrive) ∧ w'.cell? ⟨Z, 2, none⟩ = some (iV s.depart) ∧ w'.cell? ⟨Z, 3, none⟩ = some (iV li)) (by kernel_rfl) (HST.out _ (b_drew (Below.refl _ _))) (fun hHeld => ?_)
    refine wpAnyH_take (i := 0) (v := ?_) rfl (by kernel_rfl) (by kernel_rfl) (by kernel_rfl) (fun _ _ _ h => h) (Or.inl ⟨by kernel_rfl, ?_⟩) (by assumption) ?_
    rotate_left
    · (intro w hSw; (try dsimp only at hSw); go_simp; (try with_reducible rfl))
    try simp only [Act.put, List.getElem_toArray, List.getElem_cons_succ, List.getElem_cons_zero, List.setIfInBounds_toArray, List.set_cons_zero, List.set_cons_succ]
    refine wpAnyH_take (i := 1) (v := ?_) rfl (by kernel_rfl) (by kernel_rfl) (by kernel_rfl) (fun _ _ _ h => h) (Or.inl ⟨by kernel_rfl, ?_⟩) (by assumption) ?_
    rotate_left
    · (intro w hSw; (try dsimp only at hSw); go_simp; (try with_reducible rfl))
    try simp only [Act.put, List.getElem_toArray, List.getElem_cons_succ, List.getElem_cons_zero, List.setIfInBounds_toArray, List.set_cons_zero, List.set_cons_succ]
    refine wpAnyH_take (i := 2) (v := ?_) rfl (by kernel_rfl) (by kernel_rfl) (by kernel_rfl) (fun _ _ _ h => h) (Or.inl ⟨by kernel_rfl, ?_⟩) (by assumption) ?_
    rotate_left
    · (intro w hSw; (try dsimp only at hSw); go_simp; (try with_reducible rfl))
    try simp only [Act.put, List.getElem_toArray, List.getElem_cons_succ, List.getElem_cons_zero, List.setIfInBounds_toArray, List.set_cons_zero, List.set_cons_succ]
    refine wpAnyH_take (i := 3) (v := ?_) rfl (by kernel_rfl) (by kernel_rfl) (by kernel_rfl) (fun _ _ _ h => h) (Or.inl ⟨by kernel_rfl, ?_⟩) (by assumption) ?_
    rotate_left
    · (intro w hSw; (try dsimp only at hSw); go_simp; (try with_reducible rfl))
    try simp only [Act.put, List.getElem_toArray, List.getElem_cons_succ, List.getElem_cons_zero, List.setIfInBounds_toArray, List.set_cons_zero, List.set_cons_succ]
    refine wpAnyH_take (i := 4) (v := ?_) rfl (by kernel_rfl) (by kernel_rfl) (by kernel_rfl) (fun _ _ _ h => h) (Or.inl ⟨by kernel_rfl, ?_⟩) (by assumption) ?_
    rotate_left
    · (intro w hSw; (try dsimp only at hSw); go_simp; (try with_reducible rfl))
    try simp only [Act.put, List.getElem_toArray, List.getElem_cons_succ, List.getElem_cons_zero, List.setIfInBounds_toArray, List.set_cons_zero, List.set_cons_succ]
    refine wpAnyH_take (i := 5) (v := ?_) rfl (by kernel_rfl) (by kernel_rfl) (by kernel_rfl) (fun _ _ _ h => h) (Or.inl ⟨by kernel_rfl, ?_⟩) (by assumption) ?_
    rotate_left
    · (intro w hSw; (try dsimp only at hSw); go_simp; (try with_reducible rfl))
    try simp only [Act.put, List.getElem_toArray, List.getElem_cons_succ, List.getElem_cons_zero, List.setIfInBounds_toArray, List.set_cons_zero, List.set_cons_succ]
    refine wpAnyH_take (i := 6) (v := ?_) rfl (by kernel_rfl) (by kernel_rfl) (by kernel_rfl) (fun _ _ _ h => h) (Or.inl ⟨by kernel_rfl, ?_⟩) (by assumption) ?_
    rotate_left
    · (intro w hSw; (try dsimp only at hSw); go_simp; (try with_reducible rfl))
    try simp only [Act.put, List.getElem_toArray, List.getElem_cons_succ, List.getElem_cons_zero, List.setIfInBounds_toArray, List.set_cons_zero, List.set_cons_succ]
    refine wpAnyH_take (i := 7) (v := ?_) rfl (by kernel_rfl) (by kernel_rfl) (by kernel_rfl) (fun _ _ _ h => h) (Or.inl ⟨by kernel_rfl, ?_⟩) (by assumption) ?_
    rotate_left
    · (intro w hSw; (try dsimp only at hSw); go_simp; (try with_reducible rfl))
    try simp only [Act.put, List.getElem_toArray, List.getElem_cons_succ, List.getElem_cons_zero, List.setIfInBounds_toArray, List.set_cons_zero, List.set_cons_succ]
    refine wpAnyH_ready (rs := [8]) (by kernel_rfl) (by simp) ?_
    refine AllReadyH.cons rfl (fun K hK => ?_) AllReadyH.nil
    go_simp
    (go_at_call 18; refine (HREADY.out _ (b_drew (Below.refl _ _))).mono ?_; rintro e wq ⟨rfl, hb⟩; have HBq := Lib.hid (bdr hb); clear hb)
    go_wp2_with fail
    refine hK.out _ _ (HST.out _ HBq.out) (fun hHeld => ?_)
    clear hK K
    try simp only [Act.put, List.getElem_toArray, List.getElem_cons_succ, List.getElem_cons_zero, List.setIfInBounds_toArray, List.set_cons_zero, List.set_cons_succ]
    refine wpAnyH_ready (rs := [9]) (by kernel_rfl) (by simp) ?_
    refine AllReadyH.cons rfl (fun K hK => ?_) AllReadyH.nil
    go_simp
    (go_at_call 19; refine (HDEPART.out _ HBq.out).mono ?_; rintro e w8 ⟨rfl, hb⟩; have HBd := Lib.hid (bt HBq.out hb); clear hb)
    go_wp2_with fail
    refine hK.out _ _ (HST.out _ HBd.out) (fun hHeld => ?_)
    clear hK K
    try simp only [Act.put, List.getElem_toArray, List.getElem_cons_succ, List.getElem_cons_zero, List.setIfInBounds_toArray, List.set_cons_zero, List.set_cons_succ]
    refine wpAnyH_take (i := 10) (v := ?_) rfl (by kernel_rfl) (by kernel_rfl) (by kernel_rfl) (fun _ _ _ h => h) (Or.inl ⟨by kernel_rfl, ?_⟩) (by assumption) ?_
    rotate_left
    · (intro w hSw; (try dsimp only at hSw); go_simp; (try with_reducible rfl))
    try simp only [Act.put, List.getElem_toArray, List.getElem_cons_succ, List.getElem_cons_zero, List.setIfInBounds_toArray, List.set_cons_zero, List.set_cons_succ]
    refine wpAnyH_take (i := 11) (v := ?_) rfl (by kernel_rfl) (by kernel_rfl) (by kernel_rfl) (fun _ _ _ h => h) (Or.inl ⟨by kernel_rfl, ?_⟩) (by assumption) ?_
    rotate_left
    · (intro w hSw; (try dsimp only at hSw); go_simp; (try with_reducible rfl))
    try simp only [Act.put, List.getElem_toArray, List.getElem_cons_succ, List.getElem_cons_zero, List.setIfInBounds_toArray, List.set_cons_zero, List.set_cons_succ]
    refine wpAnyH_take (i := 12) (v := ?_) rfl (by kernel_rfl) (by kernel_rfl) (by kernel_rfl) (fun _ _ _ h => h) (Or.inl ⟨by kernel_rfl, ?_⟩) (by assumption) ?_
    rotate_left
    · (intro w hSw; (try dsimp only at hSw); go_simp; (try with_reducible rfl))
    try simp only [Act.put, List.getElem_toArray, List.getElem_cons_succ, List.getElem_cons_zero, List.setIfInBounds_toArray, List.set_cons_zero, List.set_cons_succ]
    refine wpAnyH_take (i := 13) (v := ?_) rfl (by kernel_rfl) (by kernel_rfl) (by kernel_rfl) (fun _ _ _ h => h) (Or.inl ⟨by kernel_rfl, ?_⟩) (by assumption) ?_
    rotate_left
    · (intro w hSw; (try dsimp only at hSw); go_simp; (try with_reducible rfl))
    try simp only [Act.put, List.getElem_toArray, List.getElem_cons_succ, List.getElem_cons_zero, List.setIfInBounds_toArray, List.set_cons_zero, List.set_cons_succ]
    refine wpAnyH_take (i := 14) (v := ?_) rfl (by kernel_rfl) (by kernel_rfl) (by kernel_rfl) (fun _ _ _ h => h) (Or.inl ⟨by kernel_rfl, ?_⟩) (by assumption) ?_
    rotate_left
    · (intro w hSw; (try dsimp only at hSw); go_simp; (try with_reducible rfl))
    try simp only [Act.put, List.getElem_toArray, List.getElem_cons_succ, List.getElem_cons_zero, List.setIfInBounds_toArray, List.set_cons_zero, List.set_cons_succ]
    refine wpAnyH_done (by kernel_rfl) ?_ _
    refine NoPanic.normal ?_
    clear hHeld
    have HB8 := Lib.hid (bt HB7.out HBd.out)
    have HB84 := Lib.hid (bt HB74.out HBd.out)
    have HZ8 : Hid (w8.heap[Z]? = some (.cells #[iV so, iV s.arrive, iV s.depart, iV li] 39 (0, 0))) := (HBd.out.block _ (block_lt HZ7.out)).trans HZ7.out
    have HP8 := Lib.hid (HNP.out.below HB8.out)
    obtain ⟨-, lb, lo, hlA, -, -, hlc⟩ := elem_at encLin_len HP8.out.net.lins (linAt_get HROW.out.ll) (by omega)
    obtain ⟨-, bb3, oo3, hA3, -, -, hc3⟩ := elem_at encSt_len (HR1'.out.below HB84.out) HS2.out (by omega)
    rw [HHA.out] at hA3
    obtain ⟨rfl, rfl⟩ : bb = bb3 ∧ oo = oo3 := by cases hA3; exact ⟨rfl, rfl⟩
    have n4 : w8.cell? ⟨X, 4, none⟩ = some (.slice n.linA n.lins.length n.linC) := HP8.out.box 4 _ rfl
    rw [hlA] at n4
    have ly2 : w8.cell? ⟨lb, lo + li * 6 + 2, none⟩ = some (iV (linAt n li).to) := hlc 2 _ rfl
    have ly4 : w8.cell? ⟨lb, lo + li * 6 + 4, none⟩ = some (iV (linAt n li).travel) := hlc 4 _ rfl
    have z2 : w8.cell? ⟨Z, 2, none⟩ = some (iV s.depart) := cell_of_row _ _ 2 _ _ _ HZ8.out
    have z3 : w8.cell? ⟨Z, 3, none⟩ = some (iV li) := cell_of_row _ _ 3 _ _ _ HZ8.out
    have x5 : w8.cell? ⟨bb, oo + (j + 1) * 4, none⟩ = some (iV s'.office) := hc3 0 _ rfl
    have x6 : w8.cell? ⟨bb, oo + (j + 1) * 4 + 1, none⟩ = some (iV s'.arrive) := hc3 1 _ rfl
    rw [HROW.out.dst] at x5
    rw [HROW.out.arr] at x6
    have p1 : (0 : Int) ≤ (li : Int) := by omega
    have p2 : (li : Int) < (n.lins.length : Int) := by have := HROW.out.ll; omega
    have p3 : 0 ≤ s.depart := by have h := HROW.out.dd; have h2 := HROW.out.r0; omega
    have p4 : s.depart ≤ 2090000 := HROW.out.d1
    have p5 : 1 ≤ (linAt n li).travel := HROW.out.tv.1
    have p6 : (linAt n li).travel ≤ 5000 := HROW.out.tv.2
    have wd : IntKind.i64.wrap (s.depart + (linAt n li).travel) = s.depart + (linAt n li).travel := IntWalk.i64_in _ (by omega)
    have q1 : (0 : Int) ≤ (j : Int) + 1 := by omega
    have q3 : IntKind.i64.wrap ((j : Int) + 1) = (j : Int) + 1 := IntWalk.i64_in _ (by omega)
    have q2 : ((j : Int) + 1).toNat = j + 1 := by omega
    clear hlc hlA hc3 hA3 hrdy HREADY HDEPART HST HBd HBq HZ7 HB7 HB74 HQS HBS HBS4 HSX
    go_wp2_with fail
    go_quiet (fail)
    go_wp2_with fail
    go_roundw
    case rel => exact ⟨j + 1, by have := HJ.out; omega, by go_num, below_drewN HB84.out _⟩
    case measure => have := HJ.out; simp [intOf]; omega
  have j3 : ¬ (j : Int) < (m : Int) := by omega
  have j4 : ¬ (j : Int) + 1 < (m : Int) + 1 := by omega
  go_wp2_with fail
  clear j3 j4
  have HR1w := Lib.hid (HR1'.out.below HBR.out)
  have HR2w := Lib.hid (HR2.out.below HBR.out)
  obtain ⟨w9, hw9⟩ : ∃ w9, w9 = wr := ⟨_, rfl⟩
  subst hw9
  clear HR1' HR2 HBR HB4 HB3 HB2
  by_cases he2 : e2 = 0
  case neg =>
    have he3 : (e2 == 0) = false := by rw [beq_eq_false_iff_ne]; exact he2
    go_loopw [24] (fun i wr => i = iV 0 ∧ wr = w9) (fun _ _ => 1)
    case atStart => exact ⟨rfl, rfl⟩
    case round =>
    obtain ⟨rfl, rfl⟩ := hrel
    have j4 : (0 : Int) < (m : Int) + 1 := by omega
    go_wp2_with fail
    go_ret
    exact ⟨rfl, HNB.out _ HBX.out⟩
  subst he2
  have HAA := Lib.hid (HAL.out rfl)
  have hll : l2.length = m + 1 := by have := HAA.out.len; have := HHM.out; omega
  have HLL := Lib.hid hll
  rw [hll]
  clear hll HAL
  go_loopw [24] (fun i wr => ∃ k q : Nat, k ≤ m + 1 ∧ i = iV k ∧ wr = w9.drewN q) (fun i _ => m + 2 - (intOf i).toNat)
  case atStart => exact ⟨0, 0, by omega, rfl, rfl⟩
  case round =>
  obtain ⟨k, q, hk, rfl, rfl⟩ := hrel
  have i0 : (0 : Int) ≤ (k : Int) := by omega
  by_cases hlt : k < m + 1
  case neg =>
    have i1 : ¬ (k : Int) < (m : Int) + 1 := by omega
    go_wp2_with fail
    go_ret
    exact ⟨rfl, HNB.out _ (below_drewN HBX.out _)⟩
  have HK2 := Lib.hid hlt
  have i1 : (k : Int) < (m : Int) + 1 := by omega
  have hs1 : l1[k]? = some (l1[k]'(by have := HHM.out; omega)) := List.getElem?_eq_getElem _
  have hs2 : l2[k]? = some (l2[k]'(by have := HLL.out; omega)) := List.getElem?_eq_getElem _
  have hsame := HAA.out.get k _ _ hs1 hs2
  obtain ⟨-, b1, o1, hA1, -, -, hc1⟩ := elem_at encSt_len HR1w.out hs1 (by omega)
  obtain ⟨-, b2, o2, hA2, -, -, hc2⟩ := elem_at encSt_len HR2w.out hs2 (by omega)
  rw [HHA.out] at hA1
  obtain ⟨rfl, rfl⟩ : bb = b1 ∧ oo = o1 := by cases hA1; exact ⟨rfl, rfl⟩
  generalize (l1[k]'(by have := HHM.out; omega)) = s at *
  generalize (l2[k]'(by have := HLL.out; omega)) = s' at *
  have x1 : w9.cell? ⟨bb, oo + k * 4, none⟩ = some (iV s.office) := hc1 0 _ rfl
  have x2 : w9.cell? ⟨bb, oo + k * 4 + 3, none⟩ = some (iV s.line) := hc1 3 _ rfl
  have x3 : w9.cell? ⟨b2, o2 + k * 4, none⟩ = some (iV s'.office) := hc2 0 _ rfl
  have x4 : w9.cell? ⟨b2, o2 + k * 4 + 3, none⟩ = some (iV s'.line) := hc2 3 _ rfl
  rw [← hsame.1] at x3
  rw [← hsame.2] at x4
  clear hs1 hs2 hc1 hc2 hA1 hsame
  subst hA2
  go_wp2_with fail
  go_quiet (fail)
  go_wp2_with fail
  go_roundw
  case rel => exact ⟨k + 1, _, by have := HK2.out; omega, by go_num, rfl⟩
  case measure => have := HK2.out; simp [intOf]; omega
end Go.Proofs.YtldkmljjmnaefaaGreatDoor
