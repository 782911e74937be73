/- The walks over timetable's calendarOf, usable, workdays. -/
import Derived.Test.YtpeaiphdkgifaaaGreatDoorVaj
namespace Go.Proofs.YtpeaiphdkgifaaaGreatDoor
open Go.RowKit
set_option maxHeartbeats 20000000
set_option maxRecDepth 100000
theorem uY (n : Net) (l o ci : Nat) (L : Lin) (of : Off) (c : Cal) (w : World) (hn : bj w n) (h0 : n.lins[l]? = some L) (hf : L.frm = (o : Int)) (h1 : n.offs[o]? = some of) (h2 : of.cal = (ci : Int)) (h3 : n.cals[ci]? = some c) :
  Calls Tryz.prog 102 #[bB n, iV l] w fun e w' => e = .returned (eI c) /\ Below w.heap.size w w' := by
 have hb0 := ba w (ae n)
 have hx0 := aC w (ae n)
 have hnp : br (w.alloc (ae n)) w.heap.size n := ⟨fun i v hv => (aA _ hx0).trans hv, hn.below hb0⟩
 have hZ := aC (w.alloc (ae n)) (.cells #[iV 0, .slice none 0 0, .slice none 0 0] 110)
 have hb1 := ba (w.alloc (ae n)) (.cells #[iV 0, .slice none 0 0, .slice none 0 0] 110)
 have hN := hnp.below hb1
 obtain ⟨hl, lb, lo, hlA, hlb, -, hlc⟩ := ay bT hN.net.lins h0 (by omega)
 obtain ⟨ho, ob, oo, hoA, hob, -, hoc⟩ := ay cQ hN.net.offs h1 (by omega)
 obtain ⟨hc, cb, co, hcA, hcb, hc0, hcc⟩ := ay fp hN.net.cals h3 (by omega)
 have HB : Hid (Below w.heap.size w ((w.alloc (ae n)).alloc (.cells #[iV 0, .slice none 0 0, .slice none 0 0] 110))) := hb0.trans (hb1.mono hb0.size)
 have HZS : Hid (w.heap.size <= (w.alloc (ae n)).heap.size) := hb0.size
 have n0 : ((w.alloc (ae n)).alloc (.cells #[iV 0, .slice none 0 0, .slice none 0 0] 110)).cell? (aV w.heap.size 0) = some (.slice n.calA n.cals.length n.calC) := hN.box 0 _ rfl
 have n3 : ((w.alloc (ae n)).alloc (.cells #[iV 0, .slice none 0 0, .slice none 0 0] 110)).cell? (aV w.heap.size 3) = some (.slice n.offA n.offs.length n.offC) := hN.box 3 _ rfl
 have n4 : ((w.alloc (ae n)).alloc (.cells #[iV 0, .slice none 0 0, .slice none 0 0] 110)).cell? (aV w.heap.size 4) = some (.slice n.linA n.lins.length n.linC) := hN.box 4 _ rfl
 have l1 : ((w.alloc (ae n)).alloc (.cells #[iV 0, .slice none 0 0, .slice none 0 0] 110)).cell? (aV lb (lo + l * 6 + 1)) = some (iV L.frm) := hlc 1 _ rfl
 have o2 : ((w.alloc (ae n)).alloc (.cells #[iV 0, .slice none 0 0, .slice none 0 0] 110)).cell? (aV ob (oo + o * 7 + 2)) = some (iV of.cal) := hoc 2 _ rfl
 have c0 : ((w.alloc (ae n)).alloc (.cells #[iV 0, .slice none 0 0, .slice none 0 0] 110)).cell? (aV cb (co + ci * 3)) = some (iV c.zone) := hc0 _ rfl
 have c1 : ((w.alloc (ae n)).alloc (.cells #[iV 0, .slice none 0 0, .slice none 0 0] 110)).cell? (aV cb (co + ci * 3 + 1)) = some (.slice c.wA c.week.length c.wc) := hcc 1 _ rfl
 have c2 : ((w.alloc (ae n)).alloc (.cells #[iV 0, .slice none 0 0, .slice none 0 0] 110)).cell? (aV cb (co + ci * 3 + 2)) = some (.slice c.hA c.hol.length c.hc) := hcc 2 _ rfl
 have z0 : ((w.alloc (ae n)).alloc (.cells #[iV 0, .slice none 0 0, .slice none 0 0] 110)).cell? ⟨(w.alloc (ae n)).heap.size, 0, none⟩ = some (iV 0) := aA 0 hZ
 have z1 : ((w.alloc (ae n)).alloc (.cells #[iV 0, .slice none 0 0, .slice none 0 0] 110)).cell? ⟨(w.alloc (ae n)).heap.size, 1, none⟩ = some (.slice none 0 0) := aA 1 hZ
 have z2 : ((w.alloc (ae n)).alloc (.cells #[iV 0, .slice none 0 0, .slice none 0 0] 110)).cell? ⟨(w.alloc (ae n)).heap.size, 2, none⟩ = some (.slice none 0 0) := aA 2 hZ
 have y0 : ((w.alloc (ae n)).alloc (.cells #[iV 0, .slice none 0 0, .slice none 0 0] 110)).frozen? ⟨(w.alloc (ae n)).heap.size, 0, none⟩ = false := ac hZ 0
 have y1 : ((w.alloc (ae n)).alloc (.cells #[iV 0, .slice none 0 0, .slice none 0 0] 110)).frozen? ⟨(w.alloc (ae n)).heap.size, 1, none⟩ = false := ac hZ 1
 have y2 : ((w.alloc (ae n)).alloc (.cells #[iV 0, .slice none 0 0, .slice none 0 0] 110)).frozen? ⟨(w.alloc (ae n)).heap.size, 2, none⟩ = false := ac hZ 2
 rw [hf] at l1
 rw [h2] at o2
 rw [hlA] at n4
 rw [hoA] at n3
 rw [hcA] at n0
 have j1 : (0 : Int) <= (o : Int) := by omega
 have j2 : (o : Int) < (n.offs.length : Int) := by omega
 have j3 : (0 : Int) <= (ci : Int) := by omega
 have j4 : (ci : Int) < (n.cals.length : Int) := by omega
 have j5 : (0 : Int) <= (l : Int) := by omega
 have j6 : (l : Int) < (n.lins.length : Int) := by omega
 clear hn hnp hN hoc hc0 hcc hZ hb0 hb1 hob hcb h1 h2 h3 hoA hcA hlA hlb hlc h0 hf hx0
 go_enter Tryz.func102, Tryz.ntmps102
 go_upto_region 1 with fail
 change Code.wp _ _ _ _ ((w.alloc (ae n)).alloc (.cells #[iV 0, .slice none 0 0, .slice none 0 0] 110))
 generalize ((w.alloc (ae n)).alloc (.cells #[iV 0, .slice none 0 0, .slice none 0 0] 110)) = W0 at *
 simp only [aT] at z0 z1 z2 y0 y1 y2 HZS
 go_still_tail 15, (by kernel_rfl)
 go_wp2
 refine bodyPost_ret (v := eI c) (by simp [results, Tryz.results102, go_sem, z0, z1, z2]) rfl ⟨rfl, ?_⟩
 exact al (((HB.out.setCell (p := (aV (w.heap.size + 1) 0)) HZS.out _).setCell (p := (aV (w.heap.size + 1) 1)) HZS.out _).setCell (p := (aV (w.heap.size + 1) 2)) HZS.out _)
theorem qU (n : Net) (l B : Nat) (t : Int) (w : World) (hn : bj w n) (hk : KW w) (hs : bM n) (hl : l < n.lins.length) (ht : tOk t = true) (hB : w.cell? (aV B 0) = some (iV t)) :
  Calls Tryz.prog 44 #[bB n, iV l, .slice (some (aV B 0)) 1 1] w fun e w' => e = .returned (.bool true) /\ Below w.heap.size w w' := by
 have hb0 := ba w (ae n)
 have hx0 := aC w (ae n)
 have hll := hn.lens.2.2.2.2.1
 unfold maxLen at hll
 have HNP : Hid (br (w.alloc (ae n)) w.heap.size n) := ⟨fun i v hv => (aA _ hx0).trans hv, hn.below hb0⟩
 have HB0 := aB hb0
 have HK := aB (hk.below hb0)
 have HS := aB hs
 have b0 := (hb0.cell (p := (aV B 0)) (aM w _ hB)).trans hB
 have n0 : (w.alloc (ae n)).cell? (aV w.heap.size 0) = some (.slice n.calA n.cals.length n.calC) := HNP.out.box 0 _ rfl
 have n1 : (w.alloc (ae n)).cell? (aV w.heap.size 1) = some (.slice n.namA n.names.length n.namC) := HNP.out.box 1 _ rfl
 have n2 : (w.alloc (ae n)).cell? (aV w.heap.size 2) = some (.slice n.opA n.ops.length n.opC) := HNP.out.box 2 _ rfl
 have n3 : (w.alloc (ae n)).cell? (aV w.heap.size 3) = some (.slice n.offA n.offs.length n.offC) := HNP.out.box 3 _ rfl
 have n4 : (w.alloc (ae n)).cell? (aV w.heap.size 4) = some (.slice n.linA n.lins.length n.linC) := HNP.out.box 4 _ rfl
 have n5 : (w.alloc (ae n)).cell? (aV w.heap.size 5) = some (.slice n.clsA n.clss.length n.clsC) := HNP.out.box 5 _ rfl
 unfold tOk at ht
 simp only [Bool.and_eq_true, decide_eq_true_eq] at ht
 have j1 : ¬ (l : Int) < 0 := by omega
 have j2 : ¬ (n.lins.length : Int) <= (l : Int) := by omega
 obtain ⟨t1, t2⟩ := ht
 have t1' : ¬ t < 0 := by omega
 have t2' : ¬ 2000000 < t := by omega
 clear hn hk hs hb0 hx0 hB
 go_enter Tryz.func44, Tryz.ntmps44
 go_upto_region 1 with fail
 change Code.wp _ _ _ _ (w.alloc (ae n))
 generalize (w.alloc (ae n)) = W at *
 generalize hX : w.heap.size = X at *
 have HX := aB hX; clear hX
 go_wp2_with fail
 go_loop [20] (fun i => ∃ k : Nat, k <= 1 /\ i = iV k) (fun i => 1 - (intOf i).toNat)
 case atStart => exact ⟨0, by omega, rfl⟩
 case round =>
 obtain ⟨k, hk, rfl⟩ := hrel
 rcases (by omega : k = 0 ∨ k = 1) with rfl | rfl
 ·go_wp2_with fail
  go_round
  case rel => exact ⟨1, by omega, by go_num⟩
  case measure => simp [intOf]
 ·go_wp2_with fail
  refine (gg n _ HNP.out.net HK.out).mono ?_
  rintro e w1 ⟨A, m, c, xs, rfl, -, -, hm, -, hb⟩
  obtain rfl : m = 0 := hm.2 HS.out
  have HB := aB hb
  clear hb hm n0 n1 n2 n3 n4 n5 b0
  go_wp2_with fail
  go_ret
  exact ⟨rfl, by have h := HB0.out; rw [<- HX.out] at h; exact bt h HB.out⟩
end Go.Proofs.YtpeaiphdkgifaaaGreatDoor
