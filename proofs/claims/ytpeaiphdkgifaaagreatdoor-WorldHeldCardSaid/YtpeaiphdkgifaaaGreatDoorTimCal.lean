/-
  The walks over timetable's calendarOf, usable, workdays.
-/
import Derived.Test.YtpeaiphdkgifaaaGreatDoorWan
namespace Go.Proofs.YtpeaiphdkgifaaaGreatDoor
open Go.RowKit
set_option maxHeartbeats 20000000
set_option maxRecDepth 100000
theorem tcal_any (n : Net) (l o ci : Nat) (L : Lin) (of : Off) (c : Cal) (w : World) (hn : NetIn w n) (h0 : n.lins[l]? = some L) (hf : L.frm = (o : Int)) (h1 : n.offs[o]? = some of) (h2 : of.cal = (ci : Int)) (h3 : n.cals[ci]? = some c) :
  Calls Tryz.prog 102 #[netV n, iV l] w fun e w' => e = .returned (calV c) /\ Below w.heap.size w w' := by
 have hb0 := ba w (netO n)
 have hx0 := heap_alloc_new w (netO n)
 have hnp : NetP (w.alloc (netO n)) w.heap.size n := ⟨fun i v hv => (cell_of_row _ _ _ _ _ _ hx0).trans hv, hn.below hb0⟩
 have hZ := heap_alloc_new (w.alloc (netO n)) (.cells #[iV 0, .slice none 0 0, .slice none 0 0] 110)
 have hb1 := ba (w.alloc (netO n)) (.cells #[iV 0, .slice none 0 0, .slice none 0 0] 110)
 have hN := hnp.below hb1
 obtain ⟨hl, lb, lo, hlA, hlb, -, hlc⟩ := elem_at encLin_len hN.net.lins h0 (by omega)
 obtain ⟨ho, ob, oo, hoA, hob, -, hoc⟩ := elem_at encOff_len hN.net.offs h1 (by omega)
 obtain ⟨hc, cb, co, hcA, hcb, hc0, hcc⟩ := elem_at encCal_len hN.net.cals h3 (by omega)
 have HB : Hid (Below w.heap.size w ((w.alloc (netO n)).alloc (.cells #[iV 0, .slice none 0 0, .slice none 0 0] 110))) := hb0.trans (hb1.mono hb0.size)
 have HZS : Hid (w.heap.size <= (w.alloc (netO n)).heap.size) := hb0.size
 have n0 : ((w.alloc (netO n)).alloc (.cells #[iV 0, .slice none 0 0, .slice none 0 0] 110)).cell? ⟨w.heap.size, 0, none⟩ = some (.slice n.calA n.cals.length n.calC) := hN.box 0 _ rfl
 have n3 : ((w.alloc (netO n)).alloc (.cells #[iV 0, .slice none 0 0, .slice none 0 0] 110)).cell? ⟨w.heap.size, 3, none⟩ = some (.slice n.offA n.offs.length n.offC) := hN.box 3 _ rfl
 have n4 : ((w.alloc (netO n)).alloc (.cells #[iV 0, .slice none 0 0, .slice none 0 0] 110)).cell? ⟨w.heap.size, 4, none⟩ = some (.slice n.linA n.lins.length n.linC) := hN.box 4 _ rfl
 have l1 : ((w.alloc (netO n)).alloc (.cells #[iV 0, .slice none 0 0, .slice none 0 0] 110)).cell? ⟨lb, lo + l * 6 + 1, none⟩ = some (iV L.frm) := hlc 1 _ rfl
 have o2 : ((w.alloc (netO n)).alloc (.cells #[iV 0, .slice none 0 0, .slice none 0 0] 110)).cell? ⟨ob, oo + o * 7 + 2, none⟩ = some (iV of.cal) := hoc 2 _ rfl
 have c0 : ((w.alloc (netO n)).alloc (.cells #[iV 0, .slice none 0 0, .slice none 0 0] 110)).cell? ⟨cb, co + ci * 3, none⟩ = some (iV c.zone) := hc0 _ rfl
 have c1 : ((w.alloc (netO n)).alloc (.cells #[iV 0, .slice none 0 0, .slice none 0 0] 110)).cell? ⟨cb, co + ci * 3 + 1, none⟩ = some (.slice c.wA c.week.length c.wc) := hcc 1 _ rfl
 have c2 : ((w.alloc (netO n)).alloc (.cells #[iV 0, .slice none 0 0, .slice none 0 0] 110)).cell? ⟨cb, co + ci * 3 + 2, none⟩ = some (.slice c.hA c.hol.length c.hc) := hcc 2 _ rfl
 have z0 : ((w.alloc (netO n)).alloc (.cells #[iV 0, .slice none 0 0, .slice none 0 0] 110)).cell? ⟨(w.alloc (netO n)).heap.size, 0, none⟩ = some (iV 0) := cell_of_row _ _ 0 _ _ _ hZ
 have z1 : ((w.alloc (netO n)).alloc (.cells #[iV 0, .slice none 0 0, .slice none 0 0] 110)).cell? ⟨(w.alloc (netO n)).heap.size, 1, none⟩ = some (.slice none 0 0) := cell_of_row _ _ 1 _ _ _ hZ
 have z2 : ((w.alloc (netO n)).alloc (.cells #[iV 0, .slice none 0 0, .slice none 0 0] 110)).cell? ⟨(w.alloc (netO n)).heap.size, 2, none⟩ = some (.slice none 0 0) := cell_of_row _ _ 2 _ _ _ hZ
 have y0 : ((w.alloc (netO n)).alloc (.cells #[iV 0, .slice none 0 0, .slice none 0 0] 110)).frozen? ⟨(w.alloc (netO n)).heap.size, 0, none⟩ = false := frozen_row hZ 0
 have y1 : ((w.alloc (netO n)).alloc (.cells #[iV 0, .slice none 0 0, .slice none 0 0] 110)).frozen? ⟨(w.alloc (netO n)).heap.size, 1, none⟩ = false := frozen_row hZ 1
 have y2 : ((w.alloc (netO n)).alloc (.cells #[iV 0, .slice none 0 0, .slice none 0 0] 110)).frozen? ⟨(w.alloc (netO n)).heap.size, 2, none⟩ = false := frozen_row hZ 2
 rw [hf] at l1
 rw [h2] at o2
 rw [hlA] at n4
 rw [hoA] at n3
 rw [hcA] at n0
 have j1 : (0 : Int) <= (o : Int) := by omega
 have j2 : (o : Int) < (n.offs.length : Int) := by omega
 have j3 : (0 : Int) <= (ci : Int) := by omega
 have j4 : (ci : Int) < (n.cals.length : Int) := by omega
 have j5 : (0 : Int) <= (l : Int) := by omega
 have j6 : (l : Int) < (n.lins.length : Int) := by omega
 clear hn hnp hN hoc hc0 hcc hZ hb0 hb1 hob hcb h1 h2 h3 hoA hcA hlA hlb hlc h0 hf hx0
 go_enter Tryz.func102, Tryz.ntmps102
 go_upto_region 1 with fail
 change Code.wp _ _ _ _ ((w.alloc (netO n)).alloc (.cells #[iV 0, .slice none 0 0, .slice none 0 0] 110))
 generalize ((w.alloc (netO n)).alloc (.cells #[iV 0, .slice none 0 0, .slice none 0 0] 110)) = W0 at *
 simp only [World.size_alloc] at z0 z1 z2 y0 y1 y2 HZS
 go_still_tail 15, (by kernel_rfl)
 go_wp2
 refine bodyPost_ret (v := calV c) (by simp [results, Tryz.results102, go_sem, z0, z1, z2]) rfl ⟨rfl, ?_⟩
 exact b_drew (((HB.out.setCell (p := ⟨w.heap.size + 1, 0, none⟩) HZS.out _).setCell (p := ⟨w.heap.size + 1, 1, none⟩) HZS.out _).setCell (p := ⟨w.heap.size + 1, 2, none⟩) HZS.out _)
theorem usable_any (n : Net) (l B : Nat) (t : Int) (w : World) (hn : NetIn w n) (hk : KW w) (hs : Sound n) (hl : l < n.lins.length) (ht : tOk t = true) (hB : w.cell? ⟨B, 0, none⟩ = some (iV t)) :
  Calls Tryz.prog 44 #[netV n, iV l, .slice (some ⟨B, 0, none⟩) 1 1] w fun e w' => e = .returned (.bool true) /\ Below w.heap.size w w' := by
 have hb0 := ba w (netO n)
 have hx0 := heap_alloc_new w (netO n)
 have hll := hn.lens.2.2.2.2.1
 unfold maxLen at hll
 have HNP : Hid (NetP (w.alloc (netO n)) w.heap.size n) := ⟨fun i v hv => (cell_of_row _ _ _ _ _ _ hx0).trans hv, hn.below hb0⟩
 have HB0 := Lib.hid hb0
 have HK := Lib.hid (hk.below hb0)
 have HS := Lib.hid hs
 have b0 := (hb0.cell (p := ⟨B, 0, none⟩) (World.block_lt_of_cell? w _ hB)).trans hB
 have n0 : (w.alloc (netO n)).cell? ⟨w.heap.size, 0, none⟩ = some (.slice n.calA n.cals.length n.calC) := HNP.out.box 0 _ rfl
 have n1 : (w.alloc (netO n)).cell? ⟨w.heap.size, 1, none⟩ = some (.slice n.namA n.names.length n.namC) := HNP.out.box 1 _ rfl
 have n2 : (w.alloc (netO n)).cell? ⟨w.heap.size, 2, none⟩ = some (.slice n.opA n.ops.length n.opC) := HNP.out.box 2 _ rfl
 have n3 : (w.alloc (netO n)).cell? ⟨w.heap.size, 3, none⟩ = some (.slice n.offA n.offs.length n.offC) := HNP.out.box 3 _ rfl
 have n4 : (w.alloc (netO n)).cell? ⟨w.heap.size, 4, none⟩ = some (.slice n.linA n.lins.length n.linC) := HNP.out.box 4 _ rfl
 have n5 : (w.alloc (netO n)).cell? ⟨w.heap.size, 5, none⟩ = some (.slice n.clsA n.clss.length n.clsC) := HNP.out.box 5 _ rfl
 unfold tOk at ht
 simp only [Bool.and_eq_true, decide_eq_true_eq] at ht
 have j1 : ¬ (l : Int) < 0 := by omega
 have j2 : ¬ (n.lins.length : Int) <= (l : Int) := by omega
 obtain ⟨t1, t2⟩ := ht
 have t1' : ¬ t < 0 := by omega
 have t2' : ¬ 2000000 < t := by omega
 clear hn hk hs hb0 hx0 hB
 go_enter Tryz.func44, Tryz.ntmps44
 go_upto_region 1 with fail
 change Code.wp _ _ _ _ (w.alloc (netO n))
 generalize (w.alloc (netO n)) = W at *
 generalize hX : w.heap.size = X at *
 have HX := Lib.hid hX; clear hX
 go_wp2_with fail
 go_loop [20] (fun i => ∃ k : Nat, k <= 1 /\ i = iV k) (fun i => 1 - (intOf i).toNat)
 case atStart => exact ⟨0, by omega, rfl⟩
 case round =>
 obtain ⟨k, hk, rfl⟩ := hrel
 rcases (by omega : k = 0 ∨ k = 1) with rfl | rfl
 ·go_wp2_with fail
  go_round
  case rel => exact ⟨1, by omega, by go_num⟩
  case measure => simp [intOf]
 ·go_wp2_with fail
  refine (scheck_any n _ HNP.out.net HK.out).mono ?_
  rintro e w1 ⟨A, m, c, xs, rfl, -, -, hm, -, hb⟩
  obtain rfl : m = 0 := hm.2 HS.out
  have HB := Lib.hid hb
  clear hb hm n0 n1 n2 n3 n4 n5 b0
  go_wp2_with fail
  go_ret
  exact ⟨rfl, by have h := HB0.out; rw [<- HX.out] at h; exact bt h HB.out⟩
end Go.Proofs.YtpeaiphdkgifaaaGreatDoor
