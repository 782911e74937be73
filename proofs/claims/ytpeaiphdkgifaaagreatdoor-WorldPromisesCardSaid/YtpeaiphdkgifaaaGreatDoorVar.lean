/- The walks over the reference's Valid, office, line (printed by -/
import Derived.Test.YtpeaiphdkgifaaaGreatDoorVaq
namespace Go.Proofs.YtpeaiphdkgifaaaGreatDoor
open Go.RowKit
set_option maxHeartbeats 20000000
set_option maxRecDepth 100000
theorem q9 (c : Cal) (w : World) (hc : cP w c) :
  Calls Tryz.prog 104 #[eI c] w fun e w' => e = .returned (.bool (du c)) /\ Below w.heap.size w w' := by
 obtain ⟨⟨z1, z2⟩, -, hA, -, hl1, hl2⟩ := hc
 have HB := aB (ba w (.cells (dZ c).toArray 110))
 have HA := aB (hA.below HB.out); clear hA
 unfold maxLen at hl1 hl2
 have hbox := oY w c 110
 unfold dZ at HA HB hbox
 obtain ⟨k0, k1, k2⟩ := hbox
 have HW : w.heap.size < (w.alloc (.cells #[iV c.zone, .slice c.wA c.week.length c.wc, .slice c.hA c.hol.length c.hc] 110)).heap.size := by simp
 by_cases hall : (-720 <= c.zone /\ c.zone <= 840 /\ c.week.length = 7 /\ c.hol.length <= 40)
 ·obtain ⟨g1, g2, g3, g4⟩ := hall
  have i1 : ¬ c.zone < -720 := by omega
  have i2 : ¬ 840 < c.zone := by omega
  have i3 : ((c.week.length : Int) != 7) = false := by simp; omega
  have i3' : ((c.week.length : Int) == 7) = true := by simp; omega
  have i4 : ¬ (40 : Int) < (c.hol.length : Int) := by omega
  have HR : Hid (du c = upB c.hol) := by
   show _ = _
   unfold du
   simp [g1, g2, g3, g4]
  clear g3
  go_enter Tryz.func104, Tryz.ntmps104
  go_upto_region 1 with fail
  change Code.wp _ _ _ _ (w.alloc (.cells #[iV c.zone, .slice c.wA c.week.length c.wc, .slice c.hA c.hol.length c.hc] 110))
  generalize (w.alloc (.cells #[iV c.zone, .slice c.wA c.week.length c.wc, .slice c.hA c.hol.length c.hc] 110)) = W0 at *
  go_wp2
  go_loopw [3] (fun i wr => ∃ k q : Nat, 1 <= k /\ k <= c.hol.length + 1 /\ i = iV k /\ wr = W0.drewN q /\ Hid (∀ (m : Nat) (h : m + 1 < c.hol.length), m + 1 < k -> c.hol[m] < c.hol[m + 1])) (fun i _ => c.hol.length + 1 - (intOf i).toNat)
  case atStart => exact ⟨1, 0, aH _, by omega, rfl, rfl, fun m h1 h2 => by omega⟩
  case round =>
   obtain ⟨k, q, hk1, hk2, rfl, rfl, HS⟩ := hrel
   by_cases hlt : k < c.hol.length
   ·obtain ⟨b, off, hA, hb, hcc⟩ := HA.out.get (i := k) (by simpa using hlt)
    have e1 : W0.cell? (aV b (off + k)) = some (iV c.hol[k]) := hcc k _ (by simp [hlt])
    have e2 : W0.cell? (aV b (off + (k - 1))) = some (iV (c.hol[k - 1]'(by omega))) := hcc (k - 1) _ (by simp [show k - 1 < c.hol.length by omega])
    have HPK : Hid (c.hol[k - 1]'(by omega) < c.hol[k] -> ∀ (m : Nat) (h : m + 1 < c.hol.length), m + 1 < k + 1 -> c.hol[m] < c.hol[m + 1]) := fun hx m h1 h2 => by
     by_cases hm : m + 1 < k
     ·exact HS.out m h1 hm
     ·obtain rfl : k = m + 1 := by omega
      exact hx
    have HNK : Hid (c.hol[k] <= c.hol[k - 1]'(by omega) -> upB c.hol = false) := fun hx => by
     rw [Bool.eq_false_iff]
     intro h
     have := uU h (k - 1) (by omega)
     simp only [show k - 1 + 1 = k by omega] at this
     omega
    rw [hA] at k2
    generalize c.hol[k] = x at *
    generalize c.hol[k - 1]'(by omega) = y at *
    clear hcc
    have j1 : (0 : Int) <= (k : Int) := by omega
    have j2 : (k : Int) < (c.hol.length : Int) := by omega
    have j3 : (1 : Int) <= (k : Int) := by omega
    have j4 : (k : Int) - 1 < (c.hol.length : Int) := by omega
    have j5 : (0 : Int) <= (k : Int) - 1 := by omega
    have j6 : IntKind.i64.wrap ((k : Int) - 1) = (k : Int) - 1 := aO _ (by omega)
    have j7 : ((k : Int) - 1).toNat = k - 1 := by omega
    go_wp2
    go_quiet (fail)
    clear j6 j7
    go_wp2
    ·go_ret
     exact ⟨ah (by rw [HR.out, HNK.out (by assumption)]), ai (ai HB.out q) _⟩
    ·go_roundw
     case rel => exact ⟨k + 1, _, by omega, by omega, by go_num, rfl, HPK.out (by omega)⟩
     case measure => simp [intOf]; omega
   ·have j2 : ¬ (k : Int) < (c.hol.length : Int) := by omega
    go_wp2
    go_ret
    exact ⟨ah (by rw [HR.out, sj (fun m h => HS.out m h (by omega))]), ai HB.out _⟩
 ·have HR : Hid (du c = false) := by
   show _ = _
   unfold du
   rw [Bool.eq_false_iff]
   intro h
   simp [and_assoc] at h
   exact hall ⟨h.1, h.2.1, h.2.2.1, h.2.2.2.1⟩
  by_cases i1 : c.zone < -720
  ·go_enter Tryz.func104, Tryz.ntmps104
   go_wp2
   go_ret
   exact ⟨ah HR.out.symm, HB.out⟩
  by_cases i2 : 840 < c.zone
  ·go_enter Tryz.func104, Tryz.ntmps104
   go_wp2
   go_ret
   exact ⟨ah HR.out.symm, HB.out⟩
  by_cases i3 : c.week.length = 7
  ·have i3' : ((c.week.length : Int) == 7) = true := by simp; omega
   have i3'' : ((c.week.length : Int) != 7) = false := by simp; omega
   have i4 : (40 : Int) < (c.hol.length : Int) := by omega
   clear i3
   go_enter Tryz.func104, Tryz.ntmps104
   go_wp2
   go_ret
   exact ⟨ah HR.out.symm, HB.out⟩
  ·have i3' : ((c.week.length : Int) == 7) = false := by simp; omega
   have i3'' : ((c.week.length : Int) != 7) = true := by simp; omega
   clear i3
   go_enter Tryz.func104, Tryz.ntmps104
   go_wp2
   go_ret
   exact ⟨ah HR.out.symm, HB.out⟩
theorem kB (v : Int) (n : Nat) : bW v 0 ((n : Int) - 1) = bx v n := by unfold bW bx; congr 1; rw [decide_eq_decide]; omega
theorem rv (n : Net) (o : Off) (h3 : o.codes.length <= 20) (h4 : o.codes.all cC = true) : ct n o = (bx o.op n.ops.length && bx o.cal n.cals.length && bW o.pockets 2 64 && bW o.passes 1 4 && bW o.minutes 1 240) := by
 unfold ct
 cases h1 : bx o.op n.ops.length <;> cases h2 : bx o.cal n.cals.length <;> simp [h3, h4]
theorem vM (n : Net) (L : Lin) : eY n L = (bx L.frm n.offs.length && bx L.to n.offs.length && decide (L.frm ≠ L.to) && bW L.at_ 0 1439 && bW L.travel 1 5000 && bW L.load 1 40) := by
 unfold eY eO
 cases h1 : bx L.frm n.offs.length <;> cases h2 : bx L.to n.offs.length <;> by_cases h3 : L.frm = L.to <;> simp [h3]
theorem pI (n : Net) (o : Off) (w : World) (ho : jL w o) (hn : n.ops.length <= maxLen /\ n.cals.length <= maxLen) :
  Calls Tryz.prog 210 #[bB n, tP o] w fun e w' => e = .returned (.bool (ct n o)) /\ Below w.heap.size w w' := by
 have HB : Hid (Below w.heap.size w ((w.alloc (ae n)).alloc (dg o))) := (ba w _).alloc (by simp) _
 have HRD := aB (ho.2.1.below HB.out)
 have HCL := aB ho.2.2.1
 have hcl := ho.2.2.2
 obtain ⟨hn1, hn2⟩ := hn
 clear ho
 unfold maxLen at hcl hn1 hn2
 have hX := aC w (ae n)
 have hY := aC (w.alloc (ae n)) (dg o)
 have hX2 := (aK (w.alloc (ae n)) (dg o) w.heap.size (by simp)).trans hX
 rw [aT] at hY
 have HS : Hid (w.heap.size + 1 < ((w.alloc (ae n)).alloc (dg o)).heap.size) := by show _ < _; simp
 have HS0 : Hid (w.heap.size < ((w.alloc (ae n)).alloc (dg o)).heap.size) := by show _ < _; simp; omega
 have l6 : ((w.alloc (ae n)).alloc (dg o)).cell? (aV (w.heap.size + 1) 6) = some (.slice o.cA o.codes.length o.cc) := aA 6 hY
 have HX := aB hX2
 have HY := aB hY
 clear hX hY hX2
 have w1 : IntKind.i64.wrap ((n.ops.length : Int) - 1) = (n.ops.length : Int) - 1 := aO _ (by omega)
 have w2 : IntKind.i64.wrap ((n.cals.length : Int) - 1) = (n.cals.length : Int) - 1 := aO _ (by omega)
 have HW1 := aB w1
 have HW2 := aB w2
 clear w1 w2
 go_enter Tryz.func210, Tryz.ntmps210
 go_upto_region 1 with fail
 change Code.wp _ _ _ _ ((w.alloc (ae n)).alloc (dg o))
 generalize ((w.alloc (ae n)).alloc (dg o)) = W0 at *
 go_wp2_with fail
 go_loopw [5, 6] (fun i v wr => ∃ k : Nat, k <= o.codes.length /\ i = iV k /\ Hid (Below W0.heap.size W0 wr) /\ Hid (∀ j x, j < k -> o.codes[j]? = some x -> cC x = true)) (fun i _ _ => o.codes.length + 1 - (intOf i).toNat)
 case atStart => exact ⟨0, by omega, rfl, aJ _ _, fun j x h => by omega⟩
 case round =>
  obtain ⟨k, hk, rfl, HBW, HQ⟩ := hrel
  have m0 : (0 : Int) <= (k : Int) := by omega
  have p6 := (HBW.out.cell (p := (aV (w.heap.size + 1) 6)) HS.out).trans l6
  clear l6
  by_cases hlt : k < o.codes.length
  ·have m1 : (k : Int) < (o.codes.length : Int) := by omega
   have hl : o.codes[k]? = some o.codes[k] := aD _
   obtain ⟨rb, ro, hrA, -, hrc⟩ := (HRD.out.below HBW.out).get (i := k) (by rw [List.length_map]; exact hlt)
   have x2 : wr.cell? (aV rb (ro + k)) = some (sV o.codes[k]) := hrc k _ (by simp [hlt])
   generalize o.codes[k] = x at hl x2
   have HL := aB hl; clear hl hrc
   have HXL := aB (HCL.out x (aF HL.out))
   rw [hrA] at p6
   go_wp2_with fail
   refine (tJ x _ HXL.out).mono ?_
   rintro e w2 ⟨rfl, hb⟩
   have HB2 := aB hb; clear hb
   cases hd : cC x
   ·have HC : Hid (ct n o = false) := if_neg (fun h => by
     have := List.all_eq_true.1 h.2.2.2 x (aF HL.out)
     rw [hd] at this
     cases this)
    go_wp2_with fail
    go_ret
    exact ⟨ah HC.out.symm, bt HB.out (bt HBW.out HB2.out)⟩
   ·have HYES : Hid (∀ j y, j < k + 1 -> o.codes[j]? = some y -> cC y = true) := fun j y hj hjy => by
     rcases Nat.lt_or_ge j k with h | h
     ·exact HQ.out j y h hjy
     ·obtain rfl : j = k := by omega
      rw [HL.out] at hjy
      cases hjy
      exact hd
    clear hd
    go_wp2_with fail
    go_roundw
    case rel => exact ⟨k + 1, by omega, by go_num, bt HBW.out HB2.out, HYES.out⟩
    case measure => simp [intOf]; omega
  ·have m1 : ¬ (k : Int) < (o.codes.length : Int) := by omega
   have HAL : Hid (o.codes.all cC = true) := by
    show _ = _
    rw [List.all_eq_true]
    intro x hx
    obtain ⟨j, hj, hjx⟩ := List.mem_iff_getElem.1 hx
    exact HQ.out j x (by omega) (by rw [aD hj, hjx])
   have HBF := aB (bt HB.out HBW.out)
   by_cases h3 : o.codes.length <= 20
   case neg =>
    have i3 : ¬ (o.codes.length : Int) <= 20 := by omega
    have HR : Hid (ct n o = false) := if_neg (fun h => h3 h.2.2.1)
    clear h3
    go_wp2_with fail
    go_ret
    exact ⟨ah HR.out.symm, HBF.out⟩
   have i3 : (o.codes.length : Int) <= 20 := by omega
   have HR := aB (rv n o h3 HAL.out)
   have hYr := (HBW.out.block _ HS.out).trans HY.out
   have hXr := (HBW.out.block _ HS0.out).trans HX.out
   have n0 : wr.cell? (aV w.heap.size 0) = some (.slice n.calA n.cals.length n.calC) := aA 0 hXr
   have n2 : wr.cell? (aV w.heap.size 2) = some (.slice n.opA n.ops.length n.opC) := aA 2 hXr
   have l1 : wr.cell? (aV (w.heap.size + 1) 1) = some (iV o.op) := aA 1 hYr
   have l2 : wr.cell? (aV (w.heap.size + 1) 2) = some (iV o.cal) := aA 2 hYr
   have l3 : wr.cell? (aV (w.heap.size + 1) 3) = some (iV o.pockets) := aA 3 hYr
   have l4 : wr.cell? (aV (w.heap.size + 1) 4) = some (iV o.passes) := aA 4 hYr
   have l5 : wr.cell? (aV (w.heap.size + 1) 5) = some (iV o.minutes) := aA 5 hYr
   have w1 := HW1.out
   have w2 := HW2.out
   clear hYr hXr h3
   go_wp2_with fail
   refine (cj _ _ _ _).mono ?_
   rintro e w3 ⟨rfl, rfl⟩
   rw [kB]
   cases hc : bx o.op n.ops.length
   ·rw [hc] at HR
    simp only [Bool.false_and] at HR
    go_wp2_with fail
    go_ret
    exact ⟨ah HR.out.symm, HBF.out⟩
   rw [hc] at HR
   simp only [Bool.true_and] at HR
   clear hc
   go_wp2_with fail
   refine (cj _ _ _ _).mono ?_
   rintro e w3 ⟨rfl, rfl⟩
   rw [kB]
   cases hc : bx o.cal n.cals.length
   ·rw [hc] at HR
    simp only [Bool.false_and] at HR
    go_wp2_with fail
    go_ret
    exact ⟨ah HR.out.symm, HBF.out⟩
   rw [hc] at HR
   simp only [Bool.true_and] at HR
   clear hc
   go_wp2_with fail
   refine (cj _ _ _ _).mono ?_
   rintro e w3 ⟨rfl, rfl⟩
   cases hc : bW o.pockets 2 64
   ·rw [hc] at HR
    simp only [Bool.false_and] at HR
    go_wp2_with fail
    go_ret
    exact ⟨ah HR.out.symm, HBF.out⟩
   rw [hc] at HR
   simp only [Bool.true_and] at HR
   clear hc
   go_wp2_with fail
   refine (cj _ _ _ _).mono ?_
   rintro e w3 ⟨rfl, rfl⟩
   cases hc : bW o.passes 1 4
   ·rw [hc] at HR
    simp only [Bool.false_and] at HR
    go_wp2_with fail
    go_ret
    exact ⟨ah HR.out.symm, HBF.out⟩
   rw [hc] at HR
   simp only [Bool.true_and] at HR
   clear hc
   go_wp2_with fail
   refine (cj _ _ _ _).mono ?_
   rintro e w3 ⟨rfl, rfl⟩
   go_wp2_with fail
   go_ret
   exact ⟨ah HR.out.symm, HBF.out⟩
theorem tH (n : Net) (L : Lin) (w : World) (ho : n.offs.length <= maxLen) :
  Calls Tryz.prog 211 #[bB n, ud L] w fun e w' => e = .returned (.bool (eY n L)) /\ Below w.heap.size w w' := by
 unfold maxLen at ho
 have HB : Hid (Below w.heap.size w ((w.alloc (ae n)).alloc (dk L))) := (ba w _).alloc (by simp) _
 have hX := aC w (ae n)
 have hY := aC (w.alloc (ae n)) (dk L)
 have hX2 := (aK (w.alloc (ae n)) (dk L) w.heap.size (by simp)).trans hX
 rw [aT] at hY
 have n3 : ((w.alloc (ae n)).alloc (dk L)).cell? (aV w.heap.size 3) = some (.slice n.offA n.offs.length n.offC) := aA 3 hX2
 have l1 : ((w.alloc (ae n)).alloc (dk L)).cell? (aV (w.heap.size + 1) 1) = some (iV L.frm) := aA 1 hY
 have l2 : ((w.alloc (ae n)).alloc (dk L)).cell? (aV (w.heap.size + 1) 2) = some (iV L.to) := aA 2 hY
 have l3 : ((w.alloc (ae n)).alloc (dk L)).cell? (aV (w.heap.size + 1) 3) = some (iV L.at_) := aA 3 hY
 have l4 : ((w.alloc (ae n)).alloc (dk L)).cell? (aV (w.heap.size + 1) 4) = some (iV L.travel) := aA 4 hY
 have l5 : ((w.alloc (ae n)).alloc (dk L)).cell? (aV (w.heap.size + 1) 5) = some (iV L.load) := aA 5 hY
 clear hX hY hX2
 have w1 : IntKind.i64.wrap ((n.offs.length : Int) - 1) = (n.offs.length : Int) - 1 := aO _ (by omega)
 have HR := aB (vM n L)
 go_enter Tryz.func211, Tryz.ntmps211
 go_upto_region 1 with fail
 change Code.wp _ _ _ _ ((w.alloc (ae n)).alloc (dk L))
 generalize ((w.alloc (ae n)).alloc (dk L)) = W0 at *
 go_wp2_with fail
 refine (cj _ _ _ _).mono ?_
 rintro e w3 ⟨rfl, rfl⟩
 rw [kB]
 cases hc : bx L.frm n.offs.length
 ·rw [hc] at HR
  simp only [Bool.false_and] at HR
  go_wp2_with fail
  go_ret
  exact ⟨ah HR.out.symm, HB.out⟩
 rw [hc] at HR
 simp only [Bool.true_and] at HR
 clear hc
 go_wp2_with fail
 refine (cj _ _ _ _).mono ?_
 rintro e w3 ⟨rfl, rfl⟩
 rw [kB]
 cases hc : bx L.to n.offs.length
 ·rw [hc] at HR
  simp only [Bool.false_and] at HR
  go_wp2_with fail
  go_ret
  exact ⟨ah HR.out.symm, HB.out⟩
 rw [hc] at HR
 simp only [Bool.true_and] at HR
 clear hc
 by_cases hne : L.frm = L.to
 ·have hne1 : (L.frm == L.to) = true := by simpa using hne
  have hne2 : (L.frm != L.to) = false := by simpa using hne
  rw [show decide (L.frm ≠ L.to) = false by simpa using hne] at HR
  clear hne
  go_wp2_with fail
  go_ret
  exact ⟨ah HR.out.symm, HB.out⟩
 have hne1 : (L.frm == L.to) = false := by simpa using hne
 have hne2 : (L.frm != L.to) = true := by simpa using hne
 rw [show decide (L.frm ≠ L.to) = true by simpa using hne] at HR
 simp only [Bool.true_and] at HR
 clear hne
 go_wp2_with fail
 refine (cj _ _ _ _).mono ?_
 rintro e w3 ⟨rfl, rfl⟩
 cases hc : bW L.at_ 0 1439
 ·rw [hc] at HR
  simp only [Bool.false_and] at HR
  go_wp2_with fail
  go_ret
  exact ⟨ah HR.out.symm, HB.out⟩
 rw [hc] at HR
 simp only [Bool.true_and] at HR
 clear hc
 go_wp2_with fail
 refine (cj _ _ _ _).mono ?_
 rintro e w3 ⟨rfl, rfl⟩
 cases hc : bW L.travel 1 5000
 ·rw [hc] at HR
  simp only [Bool.false_and] at HR
  go_wp2_with fail
  go_ret
  exact ⟨ah HR.out.symm, HB.out⟩
 rw [hc] at HR
 simp only [Bool.true_and] at HR
 clear hc
 go_wp2_with fail
 refine (cj _ _ _ _).mono ?_
 rintro e w3 ⟨rfl, rfl⟩
 go_wp2_with fail
 go_ret
 exact ⟨ah HR.out.symm, HB.out⟩
theorem tU (n : Net) (i : Nat) (x : Cal) (w : World) (hn : bj w n) (hx : n.cals[i]? = some x) :
  Calls Tryz.prog 205 #[bB n, iV 1, iV i] w fun e w' => e = .returned (.bool (du x)) /\ Below w.heap.size w w' := by
 have hb0 := ba w (ae n)
 have hx0 := aC w (ae n)
 have HNP : Hid (br (w.alloc (ae n)) w.heap.size n) := ⟨fun i v hv => (aA _ hx0).trans hv, hn.below hb0⟩
 have HB0 := aB hb0
 have HL := aB hn.lens
 have hlen := hn.lens
 unfold maxLen at hlen
 clear hn hb0 hx0
 go_enter Tryz.func205, Tryz.ntmps205
 go_upto_region 1 with fail
 change Code.wp _ _ _ _ (w.alloc (ae n))
 generalize (w.alloc (ae n)) = W at *
 generalize hX : w.heap.size = X at *
 have HX := aB hX; clear hX
 have hI : cP W x := HNP.out.net.cal x (aF hx)
 have HI := aB hI; clear hI
 obtain ⟨hlt, b, off, hA, hbl, hc0, hc⟩ := ay fp HNP.out.net.cals hx (by omega)
 have n0 : W.cell? (aV X 0) = some (.slice n.calA n.cals.length n.calC) := HNP.out.box 0 _ rfl
 rw [hA] at n0
 have x0 : W.cell? (aV b (off + i * 3)) = some (iV x.zone) := hc0 _ rfl
 have x1 : W.cell? (aV b (off + i * 3 + 1)) = some (.slice x.wA x.week.length x.wc) := hc 1 _ rfl
 have x2 : W.cell? (aV b (off + i * 3 + 2)) = some (.slice x.hA x.hol.length x.hc) := hc 2 _ rfl
 have j1 : (0 : Int) <= (i : Int) := by omega
 have j2 : (i : Int) < (n.cals.length : Int) := by omega
 clear hc0 hc hx
 clear hbl hA
 go_wp2_with fail
 refine (q9 x _ HI.out).mono ?_
 rintro e w2 ⟨rfl, hb⟩
 have HB := aB hb; clear hb
 go_wp2_with fail
 go_ret
 exact ⟨rfl, by have h := HB0.out; rw [<- HX.out] at h; exact bt h HB.out⟩
theorem tS (n : Net) (i : Nat) (x : Off) (w : World) (hn : bj w n) (hx : n.offs[i]? = some x) :
  Calls Tryz.prog 205 #[bB n, iV 3, iV i] w fun e w' => e = .returned (.bool (ct n x)) /\ Below w.heap.size w w' := by
 have hb0 := ba w (ae n)
 have hx0 := aC w (ae n)
 have HNP : Hid (br (w.alloc (ae n)) w.heap.size n) := ⟨fun i v hv => (aA _ hx0).trans hv, hn.below hb0⟩
 have HB0 := aB hb0
 have HL := aB hn.lens
 have hlen := hn.lens
 unfold maxLen at hlen
 clear hn hb0 hx0
 go_enter Tryz.func205, Tryz.ntmps205
 go_upto_region 1 with fail
 change Code.wp _ _ _ _ (w.alloc (ae n))
 generalize (w.alloc (ae n)) = W at *
 generalize hX : w.heap.size = X at *
 have HX := aB hX; clear hX
 have hI : jL W x := HNP.out.net.off x (aF hx)
 have HI := aB hI; clear hI
 obtain ⟨hlt, b, off, hA, hbl, hc0, hc⟩ := ay cQ HNP.out.net.offs hx (by omega)
 have n3 : W.cell? (aV X 3) = some (.slice n.offA n.offs.length n.offC) := HNP.out.box 3 _ rfl
 rw [hA] at n3
 have n0 : W.cell? (aV X 0) = some (.slice n.calA n.cals.length n.calC) := HNP.out.box 0 _ rfl
 have n1 : W.cell? (aV X 1) = some (.slice n.namA n.names.length n.namC) := HNP.out.box 1 _ rfl
 have n2 : W.cell? (aV X 2) = some (.slice n.opA n.ops.length n.opC) := HNP.out.box 2 _ rfl
 have n4 : W.cell? (aV X 4) = some (.slice n.linA n.lins.length n.linC) := HNP.out.box 4 _ rfl
 have n5 : W.cell? (aV X 5) = some (.slice n.clsA n.clss.length n.clsC) := HNP.out.box 5 _ rfl
 have x0 : W.cell? (aV b (off + i * 7)) = some (sV x.name) := hc0 _ rfl
 have x1 : W.cell? (aV b (off + i * 7 + 1)) = some (iV x.op) := hc 1 _ rfl
 have x2 : W.cell? (aV b (off + i * 7 + 2)) = some (iV x.cal) := hc 2 _ rfl
 have x3 : W.cell? (aV b (off + i * 7 + 3)) = some (iV x.pockets) := hc 3 _ rfl
 have x4 : W.cell? (aV b (off + i * 7 + 4)) = some (iV x.passes) := hc 4 _ rfl
 have x5 : W.cell? (aV b (off + i * 7 + 5)) = some (iV x.minutes) := hc 5 _ rfl
 have x6 : W.cell? (aV b (off + i * 7 + 6)) = some (.slice x.cA x.codes.length x.cc) := hc 6 _ rfl
 have j1 : (0 : Int) <= (i : Int) := by omega
 have j2 : (i : Int) < (n.offs.length : Int) := by omega
 clear hc0 hc hx
 have hXl := aM W _ n3
 have HS : Hid (∀ w', Below W.heap.size W w' -> w'.cell? (aV X 0) = some (.slice n.calA n.cals.length n.calC) /\ w'.cell? (aV X 1) = some (.slice n.namA n.names.length n.namC) /\ w'.cell? (aV X 2) = some (.slice n.opA n.ops.length n.opC) /\ w'.cell? (aV X 3) = some (.slice (some (aV b off)) n.offs.length n.offC) /\ w'.cell? (aV X 4) = some (.slice n.linA n.lins.length n.linC) /\ w'.cell? (aV X 5) = some (.slice n.clsA n.clss.length n.clsC) /\ w'.cell? (aV b (off + i * 7)) = some (sV x.name) /\ w'.cell? (aV b (off + i * 7 + 1)) = some (iV x.op) /\ w'.cell? (aV b (off + i * 7 + 2)) = some (iV x.cal) /\ w'.cell? (aV b (off + i * 7 + 3)) = some (iV x.pockets) /\ w'.cell? (aV b (off + i * 7 + 4)) = some (iV x.passes) /\ w'.cell? (aV b (off + i * 7 + 5)) = some (iV x.minutes) /\ w'.cell? (aV b (off + i * 7 + 6)) = some (.slice x.cA x.codes.length x.cc)) := fun w' hb => ⟨(hb.cell (p := (aV X 0)) hXl).trans n0, (hb.cell (p := (aV X 1)) hXl).trans n1, (hb.cell (p := (aV X 2)) hXl).trans n2, (hb.cell (p := (aV X 3)) hXl).trans n3, (hb.cell (p := (aV X 4)) hXl).trans n4, (hb.cell (p := (aV X 5)) hXl).trans n5, (hb.cell (p := (aV b _)) hbl).trans x0, (hb.cell (p := (aV b _)) hbl).trans x1, (hb.cell (p := (aV b _)) hbl).trans x2, (hb.cell (p := (aV b _)) hbl).trans x3, (hb.cell (p := (aV b _)) hbl).trans x4, (hb.cell (p := (aV b _)) hbl).trans x5, (hb.cell (p := (aV b _)) hbl).trans x6⟩
 clear hXl
 have HCALL : Hid (∀ w', Below W.heap.size W w' -> Calls Tryz.prog 210 #[.agg #[.slice n.calA n.cals.length n.calC, .slice n.namA n.names.length n.namC, .slice n.opA n.ops.length n.opC, .slice (some (aV b off)) n.offs.length n.offC, .slice n.linA n.lins.length n.linC, .slice n.clsA n.clss.length n.clsC], tP x] w' fun e w2 => e = .returned (.bool (ct n x)) /\ Below w'.heap.size w' w2) := fun w' hb => by
  have h := pI n x w' (HI.out.below hb) ⟨HL.out.2.2.1, HL.out.1⟩
  simp only [bB, hA] at h
  exact h
 clear hbl hA
 go_wp2_with fail
 go_region_held3 (fun w' => w'.cell? (aV X 0) = some (.slice n.calA n.cals.length n.calC) /\ w'.cell? (aV X 1) = some (.slice n.namA n.names.length n.namC) /\ w'.cell? (aV X 2) = some (.slice n.opA n.ops.length n.opC) /\ w'.cell? (aV X 3) = some (.slice (some (aV b off)) n.offs.length n.offC) /\ w'.cell? (aV X 4) = some (.slice n.linA n.lins.length n.linC) /\ w'.cell? (aV X 5) = some (.slice n.clsA n.clss.length n.clsC) /\ w'.cell? (aV b (off + i * 7)) = some (sV x.name) /\ w'.cell? (aV b (off + i * 7 + 1)) = some (iV x.op) /\ w'.cell? (aV b (off + i * 7 + 2)) = some (iV x.cal) /\ w'.cell? (aV b (off + i * 7 + 3)) = some (iV x.pockets) /\ w'.cell? (aV b (off + i * 7 + 4)) = some (iV x.passes) /\ w'.cell? (aV b (off + i * 7 + 5)) = some (iV x.minutes) /\ w'.cell? (aV b (off + i * 7 + 6)) = some (.slice x.cA x.codes.length x.cc)) (first | (with_reducible exact HS.out _ (al (aJ _ _))) | (with_reducible exact HS.out _ HB.out)) ((go_at_call 210; refine (HCALL.out _ (al (aJ _ _))).mono ?_; rintro e w2 ⟨rfl, hb⟩; have HB := aB (bdr hb); clear hb))
 go_wp2_with fail
 go_ret
 exact ⟨rfl, by have h := HB0.out; rw [<- HX.out] at h; exact bt h HB.out⟩
theorem tR (n : Net) (i : Nat) (x : Lin) (w : World) (hn : bj w n) (hx : n.lins[i]? = some x) :
  Calls Tryz.prog 205 #[bB n, iV 4, iV i] w fun e w' => e = .returned (.bool (eY n x)) /\ Below w.heap.size w w' := by
 have hb0 := ba w (ae n)
 have hx0 := aC w (ae n)
 have HNP : Hid (br (w.alloc (ae n)) w.heap.size n) := ⟨fun i v hv => (aA _ hx0).trans hv, hn.below hb0⟩
 have HB0 := aB hb0
 have HL := aB hn.lens
 have hlen := hn.lens
 unfold maxLen at hlen
 clear hn hb0 hx0
 go_enter Tryz.func205, Tryz.ntmps205
 go_upto_region 1 with fail
 change Code.wp _ _ _ _ (w.alloc (ae n))
 generalize (w.alloc (ae n)) = W at *
 generalize hX : w.heap.size = X at *
 have HX := aB hX; clear hX
 have hI : True := trivial
 have HI := aB hI; clear hI
 obtain ⟨hlt, b, off, hA, hbl, hc0, hc⟩ := ay bT HNP.out.net.lins hx (by omega)
 have n4 : W.cell? (aV X 4) = some (.slice n.linA n.lins.length n.linC) := HNP.out.box 4 _ rfl
 rw [hA] at n4
 have n0 : W.cell? (aV X 0) = some (.slice n.calA n.cals.length n.calC) := HNP.out.box 0 _ rfl
 have n1 : W.cell? (aV X 1) = some (.slice n.namA n.names.length n.namC) := HNP.out.box 1 _ rfl
 have n2 : W.cell? (aV X 2) = some (.slice n.opA n.ops.length n.opC) := HNP.out.box 2 _ rfl
 have n3 : W.cell? (aV X 3) = some (.slice n.offA n.offs.length n.offC) := HNP.out.box 3 _ rfl
 have n5 : W.cell? (aV X 5) = some (.slice n.clsA n.clss.length n.clsC) := HNP.out.box 5 _ rfl
 have x0 : W.cell? (aV b (off + i * 6)) = some (sV x.name) := hc0 _ rfl
 have x1 : W.cell? (aV b (off + i * 6 + 1)) = some (iV x.frm) := hc 1 _ rfl
 have x2 : W.cell? (aV b (off + i * 6 + 2)) = some (iV x.to) := hc 2 _ rfl
 have x3 : W.cell? (aV b (off + i * 6 + 3)) = some (iV x.at_) := hc 3 _ rfl
 have x4 : W.cell? (aV b (off + i * 6 + 4)) = some (iV x.travel) := hc 4 _ rfl
 have x5 : W.cell? (aV b (off + i * 6 + 5)) = some (iV x.load) := hc 5 _ rfl
 have j1 : (0 : Int) <= (i : Int) := by omega
 have j2 : (i : Int) < (n.lins.length : Int) := by omega
 clear hc0 hc hx
 have hXl := aM W _ n4
 have HS : Hid (∀ w', Below W.heap.size W w' -> w'.cell? (aV X 0) = some (.slice n.calA n.cals.length n.calC) /\ w'.cell? (aV X 1) = some (.slice n.namA n.names.length n.namC) /\ w'.cell? (aV X 2) = some (.slice n.opA n.ops.length n.opC) /\ w'.cell? (aV X 3) = some (.slice n.offA n.offs.length n.offC) /\ w'.cell? (aV X 4) = some (.slice (some (aV b off)) n.lins.length n.linC) /\ w'.cell? (aV X 5) = some (.slice n.clsA n.clss.length n.clsC) /\ w'.cell? (aV b (off + i * 6)) = some (sV x.name) /\ w'.cell? (aV b (off + i * 6 + 1)) = some (iV x.frm) /\ w'.cell? (aV b (off + i * 6 + 2)) = some (iV x.to) /\ w'.cell? (aV b (off + i * 6 + 3)) = some (iV x.at_) /\ w'.cell? (aV b (off + i * 6 + 4)) = some (iV x.travel) /\ w'.cell? (aV b (off + i * 6 + 5)) = some (iV x.load)) := fun w' hb => ⟨(hb.cell (p := (aV X 0)) hXl).trans n0, (hb.cell (p := (aV X 1)) hXl).trans n1, (hb.cell (p := (aV X 2)) hXl).trans n2, (hb.cell (p := (aV X 3)) hXl).trans n3, (hb.cell (p := (aV X 4)) hXl).trans n4, (hb.cell (p := (aV X 5)) hXl).trans n5, (hb.cell (p := (aV b _)) hbl).trans x0, (hb.cell (p := (aV b _)) hbl).trans x1, (hb.cell (p := (aV b _)) hbl).trans x2, (hb.cell (p := (aV b _)) hbl).trans x3, (hb.cell (p := (aV b _)) hbl).trans x4, (hb.cell (p := (aV b _)) hbl).trans x5⟩
 clear hXl
 have HCALL : Hid (∀ w', Below W.heap.size W w' -> Calls Tryz.prog 211 #[.agg #[.slice n.calA n.cals.length n.calC, .slice n.namA n.names.length n.namC, .slice n.opA n.ops.length n.opC, .slice n.offA n.offs.length n.offC, .slice (some (aV b off)) n.lins.length n.linC, .slice n.clsA n.clss.length n.clsC], ud x] w' fun e w2 => e = .returned (.bool (eY n x)) /\ Below w'.heap.size w' w2) := fun w' hb => by
  have h := tH n x w' HL.out.2.2.2.1
  simp only [bB, hA] at h
  exact h
 clear hbl hA
 go_wp2_with fail
 go_region_held3 (fun w' => w'.cell? (aV X 0) = some (.slice n.calA n.cals.length n.calC) /\ w'.cell? (aV X 1) = some (.slice n.namA n.names.length n.namC) /\ w'.cell? (aV X 2) = some (.slice n.opA n.ops.length n.opC) /\ w'.cell? (aV X 3) = some (.slice n.offA n.offs.length n.offC) /\ w'.cell? (aV X 4) = some (.slice (some (aV b off)) n.lins.length n.linC) /\ w'.cell? (aV X 5) = some (.slice n.clsA n.clss.length n.clsC) /\ w'.cell? (aV b (off + i * 6)) = some (sV x.name) /\ w'.cell? (aV b (off + i * 6 + 1)) = some (iV x.frm) /\ w'.cell? (aV b (off + i * 6 + 2)) = some (iV x.to) /\ w'.cell? (aV b (off + i * 6 + 3)) = some (iV x.at_) /\ w'.cell? (aV b (off + i * 6 + 4)) = some (iV x.travel) /\ w'.cell? (aV b (off + i * 6 + 5)) = some (iV x.load)) (first | (with_reducible exact HS.out _ (al (aJ _ _))) | (with_reducible exact HS.out _ HB.out)) ((go_at_call 211; refine (HCALL.out _ (al (aJ _ _))).mono ?_; rintro e w2 ⟨rfl, hb⟩; have HB := aB (bdr hb); clear hb))
 go_wp2_with fail
 go_ret
 exact ⟨rfl, by have h := HB0.out; rw [<- HX.out] at h; exact bt h HB.out⟩
theorem tQ (n : Net) (i : Nat) (x : Cls) (w : World) (hn : bj w n) (hx : n.clss[i]? = some x) :
  Calls Tryz.prog 205 #[bB n, iV 5, iV i] w fun e w' => e = .returned (.bool (kG x)) /\ Below w.heap.size w w' := by
 have hb0 := ba w (ae n)
 have hx0 := aC w (ae n)
 have HNP : Hid (br (w.alloc (ae n)) w.heap.size n) := ⟨fun i v hv => (aA _ hx0).trans hv, hn.below hb0⟩
 have HB0 := aB hb0
 have HL := aB hn.lens
 have hlen := hn.lens
 unfold maxLen at hlen
 clear hn hb0 hx0
 go_enter Tryz.func205, Tryz.ntmps205
 go_upto_region 1 with fail
 change Code.wp _ _ _ _ (w.alloc (ae n))
 generalize (w.alloc (ae n)) = W at *
 generalize hX : w.heap.size = X at *
 have HX := aB hX; clear hX
 have hI : True := trivial
 have HI := aB hI; clear hI
 obtain ⟨hlt, b, off, hA, hbl, hc0, hc⟩ := ay dh HNP.out.net.clss hx (by omega)
 have n5 : W.cell? (aV X 5) = some (.slice n.clsA n.clss.length n.clsC) := HNP.out.box 5 _ rfl
 rw [hA] at n5
 have x0 : W.cell? (aV b (off + i * 3)) = some (sV x.name) := hc0 _ rfl
 have x1 : W.cell? (aV b (off + i * 3 + 1)) = some (iV x.cut) := hc 1 _ rfl
 have x2 : W.cell? (aV b (off + i * 3 + 2)) = some (iV x.deliver) := hc 2 _ rfl
 have j1 : (0 : Int) <= (i : Int) := by omega
 have j2 : (i : Int) < (n.clss.length : Int) := by omega
 clear hc0 hc hx
 clear hbl hA
 have HC : Hid (kG x = (bW x.cut 0 1439 && bW x.deliver 0 1439)) := rfl
 have HB : Hid (Below w.heap.size w W) := by have h := HB0.out; rw [<- HX.out] at h; exact h
 go_wp2_with fail
 refine (cj _ _ _ _).mono ?_
 rintro e w2 ⟨rfl, rfl⟩
 cases hc : bW x.cut 0 1439
 ·rw [hc] at HC
  simp only [Bool.false_and] at HC
  go_wp2_with fail
  go_ret
  exact ⟨ah HC.out.symm, HB.out⟩
 rw [hc] at HC
 simp only [Bool.true_and] at HC
 clear hc
 go_wp2_with fail
 refine (cj _ _ _ _).mono ?_
 rintro e w2 ⟨rfl, rfl⟩
 go_wp2_with fail
 go_ret
 exact ⟨ah HC.out.symm, HB.out⟩
theorem tT (n : Net) (i : Nat) (w : World) :
  Calls Tryz.prog 205 #[bB n, iV 2, iV i] w fun e w' => e = .returned (.bool true) /\ Below w.heap.size w w' := by
 have HB0 := aB (ba w (ae n))
 go_enter Tryz.func205, Tryz.ntmps205
 go_wp2_with fail
 go_ret
 exact ⟨rfl, HB0.out⟩
theorem kR (K : Nat) (h1 : 1 <= K) (h2 : K <= 5) (n : Net) (w : World) (hn : bj w n) (hf : gx n) :
  Calls Tryz.prog 181 #[bB n, iV K] w (lg w (aW n K)) := by
 rcases (by omega : K = 1 ∨ K = 2 ∨ K = 3 ∨ K = 4 ∨ K = 5) with rfl | rfl | rfl | rfl | rfl
 ·exact names_1 n w hn hf
 ·exact names_2 n w hn hf
 ·exact names_3 n w hn hf
 ·exact names_4 n w hn hf
 ·exact names_5 n w hn hf
def vB (n : Net) : Nat -> Nat -> Bool
 | 1, i => du (n.cals.getD i zCal)
 | 2, _ => true
 | 3, i => ct n (ap n i)
 | 4, i => eY n (af n i)
 | _, i => kG (aw n i)
theorem oF (n : Net) : (aW n 1).length = n.cals.length /\ (aW n 2).length = n.ops.length /\ (aW n 3).length = n.offs.length /\ (aW n 4).length = n.lins.length /\ (aW n 5).length = n.clss.length := by simp [aW]
theorem pP (K : Nat) (h1 : 1 <= K) (h2 : K <= 5) (n : Net) (i : Nat) (w : World) (hn : bj w n) (hi : i < (aW n K).length) :
  Calls Tryz.prog 205 #[bB n, iV K, iV i] w fun e w' => e = .returned (.bool (vB n K i)) /\ Below w.heap.size w w' := by
 obtain ⟨l1, l2, l3, l4, l5⟩ := oF n
 rcases (by omega : K = 1 ∨ K = 2 ∨ K = 3 ∨ K = 4 ∨ K = 5) with rfl | rfl | rfl | rfl | rfl
 ·rw [l1] at hi
  exact tU n i _ w hn (by simp [List.getD, hi])
 ·exact tT n i w
 ·rw [l3] at hi
  exact tS n i _ w hn (bd hi)
 ·rw [l4] at hi
  exact tR n i _ w hn (bC hi)
 ·rw [l5] at hi
  exact tQ n i _ w hn (bX hi)
def gH (n : Net) (K j : Nat) : List UInt8 := (aW n K).getD j []
theorem pS {n : Net} {K j : Nat} (h : j < (aW n K).length) : (aW n K)[j]? = some (gH n K j) := by unfold gH; simp [List.getD, h]
def eV (n : Net) (K i : Nat) : Prop := bI (gH n K i) = true /\ bS (gH n K) i = true /\ vB n K i = true
theorem jv (nm : Nat -> List UInt8) (i : Nat) : bS nm i = true ↔ ∀ j < i, nm j ≠ nm i := by
 unfold bS
 simp [List.all_eq_true]
theorem nL (K : Nat) (h1 : 1 <= K) (h2 : K <= 5) (n : Net) (A : Option Addr) (c i : Nat) (w : World) (hn : bj w n) (hi : i < (aW n K).length) (hl : (aW n K).length <= 50) (hs : ∀ s ∈ aW n K, s.length <= maxLen) (hR : Rd w A ((aW n K).map sV)) :
  Calls Tryz.prog 197 #[bB n, iV K, .slice A (aW n K).length c, iV i] w fun e w' => ∃ v : Nat, e = .returned (iV v) /\ v <= 4 /\ (v = 0 ↔ eV n K i) /\ Below w.heap.size w w' := by
 have hb0 := ba w (ae n)
 have hx0 := aC w (ae n)
 have HNP : Hid (br (w.alloc (ae n)) w.heap.size n) := ⟨fun i v hv => (aA _ hx0).trans hv, hn.below hb0⟩
 have HB0 := aB hb0
 have HR := aB (hR.below hb0)
 have HS := aB hs
 have H1 := aB h1
 have H2 := aB h2
 have HI := aB hi
 clear hn hb0 hx0 hR hs h1 h2
 go_enter Tryz.func197, Tryz.ntmps197
 go_upto_region 1 with fail
 change Code.wp _ _ _ _ (w.alloc (ae n))
 generalize (w.alloc (ae n)) = W at *
 generalize hX : w.heap.size = X at *
 have HX := aB hX; clear hX
 have HXB : Hid (∀ wr, Below W.heap.size W wr -> Below w.heap.size w wr) := fun wr hb => by
  have h := HB0.out
  rw [<- HX.out] at h
  exact bt h hb
 obtain ⟨b, off, hA, -, hc⟩ := HR.out.get (i := i) (by rw [List.length_map]; exact hi)
 have HC : Hid (∀ wr, Below W.heap.size W wr -> ∀ j, j < (aW n K).length -> wr.cell? (aV b (off + j)) = some (sV (gH n K j))) := fun wr hb j hj => by
  obtain ⟨b', off', hA', -, hc'⟩ := (HR.out.below hb).get (i := j) (by rw [List.length_map]; exact hj)
  rw [hA] at hA'
  cases hA'
  exact hc' j _ (by rw [aS, pS hj]; rfl)
 have x0 := HC.out _ (aJ _ _) i hi
 have HNM : Hid ((gH n K i).length <= maxLen) := HS.out _ (aF (pS hi))
 rw [hA]
 clear hc hA
 generalize hm : (aW n K).length = m at *
 have HM := aB hm; clear hm
 have j1 : (0 : Int) <= (i : Int) := by omega
 have j2 : (i : Int) < (m : Int) := by omega
 go_wp2_with fail
 refine (tG _ _ HNM.out).mono ?_
 rintro e w2 ⟨rfl, hb⟩
 have HB := aB hb; clear hb x0
 cases hnb : bI (gH n K i)
 case false =>
  have HF : Hid ((1 : Nat) = 0 ↔ eV n K i) := ⟨fun h => by omega, fun h => by rw [h.1] at hnb; cases hnb⟩
  clear hnb
  go_wp2_with fail
  go_ret
  exact ⟨1, rfl, by omega, HF.out, HXB.out _ HB.out⟩
 have HNB := aB hnb; clear hnb
 go_wp2_with fail
 go_loopw [10] (fun k wr => ∃ j q : Nat, j <= i /\ k = iV j /\ wr = w2.drewN q /\ Hid (∀ z, z < j -> gH n K z ≠ gH n K i)) (fun k _ => 60 - (intOf k).toNat)
 case atStart => exact ⟨0, 0, by omega, rfl, rfl, fun z h => by omega⟩
 case round =>
  obtain ⟨j, q, hj, rfl, rfl, HQ⟩ := hrel
  have m0 : (0 : Int) <= (j : Int) := by omega
  by_cases hlt : j < i
  ·have m1 : (j : Int) < (i : Int) := by omega
   have m2 : (j : Int) < (m : Int) := by omega
   have x1 : w2.cell? (aV b (off + i)) = some (sV (gH n K i)) := HC.out _ HB.out i hi
   have x2 : w2.cell? (aV b (off + j)) = some (sV (gH n K j)) := HC.out _ HB.out j (by omega)
   cases he : gH n K j == gH n K i
   case true =>
    have HF : Hid ((4 : Nat) = 0 ↔ eV n K i) := ⟨fun h => by omega, fun h => absurd (by simpa using he) ((jv _ _).1 h.2.1 j hlt)⟩
    go_wp2_with fail
    go_quiet (fail)
    go_wp2_with fail
    go_ret
    exact ⟨4, rfl, by omega, HF.out, HXB.out _ (ai (ai HB.out _) _)⟩
   case false =>
    have HN : Hid (∀ z, z < j + 1 -> gH n K z ≠ gH n K i) := fun z hz => by
     rcases Nat.lt_or_ge z j with h | h
     ·exact HQ.out z h
     ·obtain rfl : z = j := by omega
      simpa using he
    go_wp2_with fail
    go_quiet (fail)
    go_wp2_with fail
    go_roundw
    case rel => exact ⟨j + 1, _, by omega, by go_num, rfl, HN.out⟩
    case measure => simp [intOf]; omega
  ·have m1 : ¬ (j : Int) < (i : Int) := by omega
   have HFR : Hid (bS (gH n K) i = true) := (jv _ _).2 fun z hz => HQ.out z (by omega)
   have hnp := HNP.out.below (ai HB.out q)
   have n0 : (w2.drewN q).cell? (aV X 0) = some (.slice n.calA n.cals.length n.calC) := hnp.box 0 _ rfl
   have n1 : (w2.drewN q).cell? (aV X 1) = some (.slice n.namA n.names.length n.namC) := hnp.box 1 _ rfl
   have n2 : (w2.drewN q).cell? (aV X 2) = some (.slice n.opA n.ops.length n.opC) := hnp.box 2 _ rfl
   have n3 : (w2.drewN q).cell? (aV X 3) = some (.slice n.offA n.offs.length n.offC) := hnp.box 3 _ rfl
   have n4 : (w2.drewN q).cell? (aV X 4) = some (.slice n.linA n.lins.length n.linC) := hnp.box 4 _ rfl
   have n5 : (w2.drewN q).cell? (aV X 5) = some (.slice n.clsA n.clss.length n.clsC) := hnp.box 5 _ rfl
   have HNI := aB hnp.net
   have HBQ : Hid (Below W.heap.size W (w2.drewN q)) := ai HB.out q
   clear hnp
   generalize w2.drewN q = w3 at *
   go_wp2_with fail
   refine (pP K H1.out H2.out n i _ HNI.out (by rw [HM.out]; exact hi)).mono ?_
   rintro e w4 ⟨rfl, hb⟩
   have HB2 := aB (bt HBQ.out hb); clear hb n0 n1 n2 n3 n4 n5
   cases hnu : vB n K i
   case false =>
    have HF : Hid ((1 : Nat) = 0 ↔ eV n K i) := ⟨fun h => by omega, fun h => by rw [h.2.2] at hnu; cases hnu⟩
    clear hnu
    go_wp2_with fail
    go_ret
    exact ⟨1, rfl, by omega, HF.out, HXB.out _ HB2.out⟩
   case true =>
    have HF : Hid (eV n K i) := ⟨HNB.out, HFR.out, hnu⟩
    clear hnu
    go_wp2_with fail
    go_ret
    exact ⟨0, rfl, by omega, ⟨fun _ => HF.out, fun _ => rfl⟩, HXB.out _ HB2.out⟩
end Go.Proofs.YtpeaiphdkgifaaaGreatDoor
