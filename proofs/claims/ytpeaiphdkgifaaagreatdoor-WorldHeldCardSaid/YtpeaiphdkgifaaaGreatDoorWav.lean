/-
  The walks over the reference's Valid, office, line (printed by gen_refo.py). The walks over the reference's numbers. (Printed by gen_reff.py.) The walk over the reference's errno; names, numbers for every kind.
-/
import Derived.Test.YtpeaiphdkgifaaaGreatDoorWau
namespace Go.Proofs.YtpeaiphdkgifaaaGreatDoor
open Go.RowKit
set_option maxHeartbeats 20000000
set_option maxRecDepth 100000
theorem rvalid_any (c : Cal) (w : World) (hc : CalIn w c) :
  Calls Tryz.prog 104 #[calV c] w fun e w' => e = .returned (.bool (calB c)) /\ Below w.heap.size w w' := by
 obtain ⟨⟨z1, z2⟩, -, hA, -, hl1, hl2⟩ := hc
 have HB := Lib.hid (ba w (.cells (encCal c).toArray 110))
 have HA := Lib.hid (hA.below HB.out); clear hA
 unfold maxLen at hl1 hl2
 have hbox := cal_box w c 110
 unfold encCal at HA HB hbox
 obtain ⟨k0, k1, k2⟩ := hbox
 have HW : w.heap.size < (w.alloc (.cells #[iV c.zone, .slice c.wA c.week.length c.wc, .slice c.hA c.hol.length c.hc] 110)).heap.size := by simp
 by_cases hall : (-720 <= c.zone /\ c.zone <= 840 /\ c.week.length = 7 /\ c.hol.length <= 40)
 ·obtain ⟨g1, g2, g3, g4⟩ := hall
  have i1 : ¬ c.zone < -720 := by omega
  have i2 : ¬ 840 < c.zone := by omega
  have i3 : ((c.week.length : Int) != 7) = false := by simp; omega
  have i3' : ((c.week.length : Int) == 7) = true := by simp; omega
  have i4 : ¬ (40 : Int) < (c.hol.length : Int) := by omega
  have HR : Hid (calB c = upB c.hol) := by
   show _ = _
   unfold calB
   simp [g1, g2, g3, g4]
  clear g3
  go_enter Tryz.func104, Tryz.ntmps104
  go_upto_region 1 with fail
  change Code.wp _ _ _ _ (w.alloc (.cells #[iV c.zone, .slice c.wA c.week.length c.wc, .slice c.hA c.hol.length c.hc] 110))
  generalize (w.alloc (.cells #[iV c.zone, .slice c.wA c.week.length c.wc, .slice c.hA c.hol.length c.hc] 110)) = W0 at *
  go_wp2
  go_loopw [3] (fun i wr => ∃ k q : Nat, 1 <= k /\ k <= c.hol.length + 1 /\ i = iV k /\ wr = W0.drewN q /\ Hid (∀ (m : Nat) (h : m + 1 < c.hol.length), m + 1 < k -> c.hol[m] < c.hol[m + 1])) (fun i _ => c.hol.length + 1 - (intOf i).toNat)
  case atStart => exact ⟨1, 0, Nat.le_refl _, by omega, rfl, rfl, fun m h1 h2 => by omega⟩
  case round =>
   obtain ⟨k, q, hk1, hk2, rfl, rfl, HS⟩ := hrel
   by_cases hlt : k < c.hol.length
   ·obtain ⟨b, off, hA, hb, hcc⟩ := HA.out.get (i := k) (by simpa using hlt)
    have e1 : W0.cell? ⟨b, off + k, none⟩ = some (iV c.hol[k]) := hcc k _ (by simp [hlt])
    have e2 : W0.cell? ⟨b, off + (k - 1), none⟩ = some (iV (c.hol[k - 1]'(by omega))) := hcc (k - 1) _ (by simp [show k - 1 < c.hol.length by omega])
    have HPK : Hid (c.hol[k - 1]'(by omega) < c.hol[k] -> ∀ (m : Nat) (h : m + 1 < c.hol.length), m + 1 < k + 1 -> c.hol[m] < c.hol[m + 1]) := fun hx m h1 h2 => by
     by_cases hm : m + 1 < k
     ·exact HS.out m h1 hm
     ·obtain rfl : k = m + 1 := by omega
      exact hx
    have HNK : Hid (c.hol[k] <= c.hol[k - 1]'(by omega) -> upB c.hol = false) := fun hx => by
     rw [Bool.eq_false_iff]
     intro h
     have := upB_at h (k - 1) (by omega)
     simp only [show k - 1 + 1 = k by omega] at this
     omega
    rw [hA] at k2
    generalize c.hol[k] = x at *
    generalize c.hol[k - 1]'(by omega) = y at *
    clear hcc
    have j1 : (0 : Int) <= (k : Int) := by omega
    have j2 : (k : Int) < (c.hol.length : Int) := by omega
    have j3 : (1 : Int) <= (k : Int) := by omega
    have j4 : (k : Int) - 1 < (c.hol.length : Int) := by omega
    have j5 : (0 : Int) <= (k : Int) - 1 := by omega
    have j6 : IntKind.i64.wrap ((k : Int) - 1) = (k : Int) - 1 := IntWalk.i64_in _ (by omega)
    have j7 : ((k : Int) - 1).toNat = k - 1 := by omega
    go_wp2
    go_quiet (fail)
    clear j6 j7
    go_wp2
    ·go_ret
     exact ⟨ret_bool (by rw [HR.out, HNK.out (by assumption)]), below_drewN (below_drewN HB.out q) _⟩
    ·go_roundw
     case rel => exact ⟨k + 1, _, by omega, by omega, by go_num, rfl, HPK.out (by omega)⟩
     case measure => simp [intOf]; omega
   ·have j2 : ¬ (k : Int) < (c.hol.length : Int) := by omega
    go_wp2
    go_ret
    exact ⟨ret_bool (by rw [HR.out, upB_get (fun m h => HS.out m h (by omega))]), below_drewN HB.out _⟩
 ·have HR : Hid (calB c = false) := by
   show _ = _
   unfold calB
   rw [Bool.eq_false_iff]
   intro h
   simp [and_assoc] at h
   exact hall ⟨h.1, h.2.1, h.2.2.1, h.2.2.2.1⟩
  by_cases i1 : c.zone < -720
  ·go_enter Tryz.func104, Tryz.ntmps104
   go_wp2
   go_ret
   exact ⟨ret_bool HR.out.symm, HB.out⟩
  by_cases i2 : 840 < c.zone
  ·go_enter Tryz.func104, Tryz.ntmps104
   go_wp2
   go_ret
   exact ⟨ret_bool HR.out.symm, HB.out⟩
  by_cases i3 : c.week.length = 7
  ·have i3' : ((c.week.length : Int) == 7) = true := by simp; omega
   have i3'' : ((c.week.length : Int) != 7) = false := by simp; omega
   have i4 : (40 : Int) < (c.hol.length : Int) := by omega
   clear i3
   go_enter Tryz.func104, Tryz.ntmps104
   go_wp2
   go_ret
   exact ⟨ret_bool HR.out.symm, HB.out⟩
  ·have i3' : ((c.week.length : Int) == 7) = false := by simp; omega
   have i3'' : ((c.week.length : Int) != 7) = true := by simp; omega
   clear i3
   go_enter Tryz.func104, Tryz.ntmps104
   go_wp2
   go_ret
   exact ⟨ret_bool HR.out.symm, HB.out⟩
theorem fromB_ix (v : Int) (n : Nat) : fromB v 0 ((n : Int) - 1) = indexB v n := by unfold fromB indexB; congr 1; rw [decide_eq_decide]; omega
theorem officeB_eq (n : Net) (o : Off) (h3 : o.codes.length <= 20) (h4 : o.codes.all codeB = true) : officeB n o = (indexB o.op n.ops.length && indexB o.cal n.cals.length && fromB o.pockets 2 64 && fromB o.passes 1 4 && fromB o.minutes 1 240) := by
 unfold officeB
 cases h1 : indexB o.op n.ops.length <;> cases h2 : indexB o.cal n.cals.length <;> simp [h3, h4]
theorem lineB_eq (n : Net) (L : Lin) : lineB n L = (indexB L.frm n.offs.length && indexB L.to n.offs.length && decide (L.frm ≠ L.to) && fromB L.at_ 0 1439 && fromB L.travel 1 5000 && fromB L.load 1 40) := by
 unfold lineB minuteB
 cases h1 : indexB L.frm n.offs.length <;> cases h2 : indexB L.to n.offs.length <;> by_cases h3 : L.frm = L.to <;> simp [h3]
theorem roffice_any (n : Net) (o : Off) (w : World) (ho : OffIn w o) (hn : n.ops.length <= maxLen /\ n.cals.length <= maxLen) :
  Calls Tryz.prog 210 #[netV n, offV o] w fun e w' => e = .returned (.bool (officeB n o)) /\ Below w.heap.size w w' := by
 have HB : Hid (Below w.heap.size w ((w.alloc (netO n)).alloc (offO o))) := (ba w _).alloc (by simp) _
 have HRD := Lib.hid (ho.2.1.below HB.out)
 have HCL := Lib.hid ho.2.2.1
 have hcl := ho.2.2.2
 obtain ⟨hn1, hn2⟩ := hn
 clear ho
 unfold maxLen at hcl hn1 hn2
 have hX := heap_alloc_new w (netO n)
 have hY := heap_alloc_new (w.alloc (netO n)) (offO o)
 have hX2 := (Below.heap_alloc (w.alloc (netO n)) (offO o) w.heap.size (by simp)).trans hX
 rw [World.size_alloc] at hY
 have HS : Hid (w.heap.size + 1 < ((w.alloc (netO n)).alloc (offO o)).heap.size) := by show _ < _; simp
 have HS0 : Hid (w.heap.size < ((w.alloc (netO n)).alloc (offO o)).heap.size) := by show _ < _; simp; omega
 have l6 : ((w.alloc (netO n)).alloc (offO o)).cell? ⟨w.heap.size + 1, 6, none⟩ = some (.slice o.cA o.codes.length o.cc) := cell_of_row _ _ 6 _ _ _ hY
 have HX := Lib.hid hX2
 have HY := Lib.hid hY
 clear hX hY hX2
 have w1 : IntKind.i64.wrap ((n.ops.length : Int) - 1) = (n.ops.length : Int) - 1 := IntWalk.i64_in _ (by omega)
 have w2 : IntKind.i64.wrap ((n.cals.length : Int) - 1) = (n.cals.length : Int) - 1 := IntWalk.i64_in _ (by omega)
 have HW1 := Lib.hid w1
 have HW2 := Lib.hid w2
 clear w1 w2
 go_enter Tryz.func210, Tryz.ntmps210
 go_upto_region 1 with fail
 change Code.wp _ _ _ _ ((w.alloc (netO n)).alloc (offO o))
 generalize ((w.alloc (netO n)).alloc (offO o)) = W0 at *
 go_wp2_with fail
 go_loopw [5, 6] (fun i v wr => ∃ k : Nat, k <= o.codes.length /\ i = iV k /\ Hid (Below W0.heap.size W0 wr) /\ Hid (∀ j x, j < k -> o.codes[j]? = some x -> codeB x = true)) (fun i _ _ => o.codes.length + 1 - (intOf i).toNat)
 case atStart => exact ⟨0, by omega, rfl, Below.refl _ _, fun j x h => by omega⟩
 case round =>
  obtain ⟨k, hk, rfl, HBW, HQ⟩ := hrel
  have m0 : (0 : Int) <= (k : Int) := by omega
  have p6 := (HBW.out.cell (p := ⟨w.heap.size + 1, 6, none⟩) HS.out).trans l6
  clear l6
  by_cases hlt : k < o.codes.length
  ·have m1 : (k : Int) < (o.codes.length : Int) := by omega
   have hl : o.codes[k]? = some o.codes[k] := List.getElem?_eq_getElem _
   obtain ⟨rb, ro, hrA, -, hrc⟩ := (HRD.out.below HBW.out).get (i := k) (by rw [List.length_map]; exact hlt)
   have x2 : wr.cell? ⟨rb, ro + k, none⟩ = some (sV o.codes[k]) := hrc k _ (by simp [hlt])
   generalize o.codes[k] = x at hl x2
   have HL := Lib.hid hl; clear hl hrc
   have HXL := Lib.hid (HCL.out x (List.mem_of_getElem? HL.out))
   rw [hrA] at p6
   go_wp2_with fail
   refine (rcode_any x _ HXL.out).mono ?_
   rintro e w2 ⟨rfl, hb⟩
   have HB2 := Lib.hid hb; clear hb
   cases hd : codeB x
   ·have HC : Hid (officeB n o = false) := if_neg (fun h => by
     have := List.all_eq_true.1 h.2.2.2 x (List.mem_of_getElem? HL.out)
     rw [hd] at this
     cases this)
    go_wp2_with fail
    go_ret
    exact ⟨ret_bool HC.out.symm, bt HB.out (bt HBW.out HB2.out)⟩
   ·have HYES : Hid (∀ j y, j < k + 1 -> o.codes[j]? = some y -> codeB y = true) := fun j y hj hjy => by
     rcases Nat.lt_or_ge j k with h | h
     ·exact HQ.out j y h hjy
     ·obtain rfl : j = k := by omega
      rw [HL.out] at hjy
      cases hjy
      exact hd
    clear hd
    go_wp2_with fail
    go_roundw
    case rel => exact ⟨k + 1, by omega, by go_num, bt HBW.out HB2.out, HYES.out⟩
    case measure => simp [intOf]; omega
  ·have m1 : ¬ (k : Int) < (o.codes.length : Int) := by omega
   have HAL : Hid (o.codes.all codeB = true) := by
    show _ = _
    rw [List.all_eq_true]
    intro x hx
    obtain ⟨j, hj, hjx⟩ := List.mem_iff_getElem.1 hx
    exact HQ.out j x (by omega) (by rw [List.getElem?_eq_getElem hj, hjx])
   have HBF := Lib.hid (bt HB.out HBW.out)
   by_cases h3 : o.codes.length <= 20
   case neg =>
    have i3 : ¬ (o.codes.length : Int) <= 20 := by omega
    have HR : Hid (officeB n o = false) := if_neg (fun h => h3 h.2.2.1)
    clear h3
    go_wp2_with fail
    go_ret
    exact ⟨ret_bool HR.out.symm, HBF.out⟩
   have i3 : (o.codes.length : Int) <= 20 := by omega
   have HR := Lib.hid (officeB_eq n o h3 HAL.out)
   have hYr := (HBW.out.block _ HS.out).trans HY.out
   have hXr := (HBW.out.block _ HS0.out).trans HX.out
   have n0 : wr.cell? ⟨w.heap.size, 0, none⟩ = some (.slice n.calA n.cals.length n.calC) := cell_of_row _ _ 0 _ _ _ hXr
   have n2 : wr.cell? ⟨w.heap.size, 2, none⟩ = some (.slice n.opA n.ops.length n.opC) := cell_of_row _ _ 2 _ _ _ hXr
   have l1 : wr.cell? ⟨w.heap.size + 1, 1, none⟩ = some (iV o.op) := cell_of_row _ _ 1 _ _ _ hYr
   have l2 : wr.cell? ⟨w.heap.size + 1, 2, none⟩ = some (iV o.cal) := cell_of_row _ _ 2 _ _ _ hYr
   have l3 : wr.cell? ⟨w.heap.size + 1, 3, none⟩ = some (iV o.pockets) := cell_of_row _ _ 3 _ _ _ hYr
   have l4 : wr.cell? ⟨w.heap.size + 1, 4, none⟩ = some (iV o.passes) := cell_of_row _ _ 4 _ _ _ hYr
   have l5 : wr.cell? ⟨w.heap.size + 1, 5, none⟩ = some (iV o.minutes) := cell_of_row _ _ 5 _ _ _ hYr
   have w1 := HW1.out
   have w2 := HW2.out
   clear hYr hXr h3
   go_wp2_with fail
   refine (between_any _ _ _ _).mono ?_
   rintro e w3 ⟨rfl, rfl⟩
   rw [fromB_ix]
   cases hc : indexB o.op n.ops.length
   ·rw [hc] at HR
    simp only [Bool.false_and] at HR
    go_wp2_with fail
    go_ret
    exact ⟨ret_bool HR.out.symm, HBF.out⟩
   rw [hc] at HR
   simp only [Bool.true_and] at HR
   clear hc
   go_wp2_with fail
   refine (between_any _ _ _ _).mono ?_
   rintro e w3 ⟨rfl, rfl⟩
   rw [fromB_ix]
   cases hc : indexB o.cal n.cals.length
   ·rw [hc] at HR
    simp only [Bool.false_and] at HR
    go_wp2_with fail
    go_ret
    exact ⟨ret_bool HR.out.symm, HBF.out⟩
   rw [hc] at HR
   simp only [Bool.true_and] at HR
   clear hc
   go_wp2_with fail
   refine (between_any _ _ _ _).mono ?_
   rintro e w3 ⟨rfl, rfl⟩
   cases hc : fromB o.pockets 2 64
   ·rw [hc] at HR
    simp only [Bool.false_and] at HR
    go_wp2_with fail
    go_ret
    exact ⟨ret_bool HR.out.symm, HBF.out⟩
   rw [hc] at HR
   simp only [Bool.true_and] at HR
   clear hc
   go_wp2_with fail
   refine (between_any _ _ _ _).mono ?_
   rintro e w3 ⟨rfl, rfl⟩
   cases hc : fromB o.passes 1 4
   ·rw [hc] at HR
    simp only [Bool.false_and] at HR
    go_wp2_with fail
    go_ret
    exact ⟨ret_bool HR.out.symm, HBF.out⟩
   rw [hc] at HR
   simp only [Bool.true_and] at HR
   clear hc
   go_wp2_with fail
   refine (between_any _ _ _ _).mono ?_
   rintro e w3 ⟨rfl, rfl⟩
   go_wp2_with fail
   go_ret
   exact ⟨ret_bool HR.out.symm, HBF.out⟩
theorem rline_any (n : Net) (L : Lin) (w : World) (ho : n.offs.length <= maxLen) :
  Calls Tryz.prog 211 #[netV n, linV L] w fun e w' => e = .returned (.bool (lineB n L)) /\ Below w.heap.size w w' := by
 unfold maxLen at ho
 have HB : Hid (Below w.heap.size w ((w.alloc (netO n)).alloc (linO L))) := (ba w _).alloc (by simp) _
 have hX := heap_alloc_new w (netO n)
 have hY := heap_alloc_new (w.alloc (netO n)) (linO L)
 have hX2 := (Below.heap_alloc (w.alloc (netO n)) (linO L) w.heap.size (by simp)).trans hX
 rw [World.size_alloc] at hY
 have n3 : ((w.alloc (netO n)).alloc (linO L)).cell? ⟨w.heap.size, 3, none⟩ = some (.slice n.offA n.offs.length n.offC) := cell_of_row _ _ 3 _ _ _ hX2
 have l1 : ((w.alloc (netO n)).alloc (linO L)).cell? ⟨w.heap.size + 1, 1, none⟩ = some (iV L.frm) := cell_of_row _ _ 1 _ _ _ hY
 have l2 : ((w.alloc (netO n)).alloc (linO L)).cell? ⟨w.heap.size + 1, 2, none⟩ = some (iV L.to) := cell_of_row _ _ 2 _ _ _ hY
 have l3 : ((w.alloc (netO n)).alloc (linO L)).cell? ⟨w.heap.size + 1, 3, none⟩ = some (iV L.at_) := cell_of_row _ _ 3 _ _ _ hY
 have l4 : ((w.alloc (netO n)).alloc (linO L)).cell? ⟨w.heap.size + 1, 4, none⟩ = some (iV L.travel) := cell_of_row _ _ 4 _ _ _ hY
 have l5 : ((w.alloc (netO n)).alloc (linO L)).cell? ⟨w.heap.size + 1, 5, none⟩ = some (iV L.load) := cell_of_row _ _ 5 _ _ _ hY
 clear hX hY hX2
 have w1 : IntKind.i64.wrap ((n.offs.length : Int) - 1) = (n.offs.length : Int) - 1 := IntWalk.i64_in _ (by omega)
 have HR := Lib.hid (lineB_eq n L)
 go_enter Tryz.func211, Tryz.ntmps211
 go_upto_region 1 with fail
 change Code.wp _ _ _ _ ((w.alloc (netO n)).alloc (linO L))
 generalize ((w.alloc (netO n)).alloc (linO L)) = W0 at *
 go_wp2_with fail
 refine (between_any _ _ _ _).mono ?_
 rintro e w3 ⟨rfl, rfl⟩
 rw [fromB_ix]
 cases hc : indexB L.frm n.offs.length
 ·rw [hc] at HR
  simp only [Bool.false_and] at HR
  go_wp2_with fail
  go_ret
  exact ⟨ret_bool HR.out.symm, HB.out⟩
 rw [hc] at HR
 simp only [Bool.true_and] at HR
 clear hc
 go_wp2_with fail
 refine (between_any _ _ _ _).mono ?_
 rintro e w3 ⟨rfl, rfl⟩
 rw [fromB_ix]
 cases hc : indexB L.to n.offs.length
 ·rw [hc] at HR
  simp only [Bool.false_and] at HR
  go_wp2_with fail
  go_ret
  exact ⟨ret_bool HR.out.symm, HB.out⟩
 rw [hc] at HR
 simp only [Bool.true_and] at HR
 clear hc
 by_cases hne : L.frm = L.to
 ·have hne1 : (L.frm == L.to) = true := by simpa using hne
  have hne2 : (L.frm != L.to) = false := by simpa using hne
  rw [show decide (L.frm ≠ L.to) = false by simpa using hne] at HR
  clear hne
  go_wp2_with fail
  go_ret
  exact ⟨ret_bool HR.out.symm, HB.out⟩
 have hne1 : (L.frm == L.to) = false := by simpa using hne
 have hne2 : (L.frm != L.to) = true := by simpa using hne
 rw [show decide (L.frm ≠ L.to) = true by simpa using hne] at HR
 simp only [Bool.true_and] at HR
 clear hne
 go_wp2_with fail
 refine (between_any _ _ _ _).mono ?_
 rintro e w3 ⟨rfl, rfl⟩
 cases hc : fromB L.at_ 0 1439
 ·rw [hc] at HR
  simp only [Bool.false_and] at HR
  go_wp2_with fail
  go_ret
  exact ⟨ret_bool HR.out.symm, HB.out⟩
 rw [hc] at HR
 simp only [Bool.true_and] at HR
 clear hc
 go_wp2_with fail
 refine (between_any _ _ _ _).mono ?_
 rintro e w3 ⟨rfl, rfl⟩
 cases hc : fromB L.travel 1 5000
 ·rw [hc] at HR
  simp only [Bool.false_and] at HR
  go_wp2_with fail
  go_ret
  exact ⟨ret_bool HR.out.symm, HB.out⟩
 rw [hc] at HR
 simp only [Bool.true_and] at HR
 clear hc
 go_wp2_with fail
 refine (between_any _ _ _ _).mono ?_
 rintro e w3 ⟨rfl, rfl⟩
 go_wp2_with fail
 go_ret
 exact ⟨ret_bool HR.out.symm, HB.out⟩
theorem numbers_1 (n : Net) (i : Nat) (x : Cal) (w : World) (hn : NetIn w n) (hx : n.cals[i]? = some x) :
  Calls Tryz.prog 205 #[netV n, iV 1, iV i] w fun e w' => e = .returned (.bool (calB x)) /\ Below w.heap.size w w' := by
 have hb0 := ba w (netO n)
 have hx0 := heap_alloc_new w (netO n)
 have HNP : Hid (NetP (w.alloc (netO n)) w.heap.size n) := ⟨fun i v hv => (cell_of_row _ _ _ _ _ _ hx0).trans hv, hn.below hb0⟩
 have HB0 := Lib.hid hb0
 have HL := Lib.hid hn.lens
 have hlen := hn.lens
 unfold maxLen at hlen
 clear hn hb0 hx0
 go_enter Tryz.func205, Tryz.ntmps205
 go_upto_region 1 with fail
 change Code.wp _ _ _ _ (w.alloc (netO n))
 generalize (w.alloc (netO n)) = W at *
 generalize hX : w.heap.size = X at *
 have HX := Lib.hid hX; clear hX
 have hI : CalIn W x := HNP.out.net.cal x (List.mem_of_getElem? hx)
 have HI := Lib.hid hI; clear hI
 obtain ⟨hlt, b, off, hA, hbl, hc0, hc⟩ := elem_at encCal_len HNP.out.net.cals hx (by omega)
 have n0 : W.cell? ⟨X, 0, none⟩ = some (.slice n.calA n.cals.length n.calC) := HNP.out.box 0 _ rfl
 rw [hA] at n0
 have x0 : W.cell? ⟨b, off + i * 3, none⟩ = some (iV x.zone) := hc0 _ rfl
 have x1 : W.cell? ⟨b, off + i * 3 + 1, none⟩ = some (.slice x.wA x.week.length x.wc) := hc 1 _ rfl
 have x2 : W.cell? ⟨b, off + i * 3 + 2, none⟩ = some (.slice x.hA x.hol.length x.hc) := hc 2 _ rfl
 have j1 : (0 : Int) <= (i : Int) := by omega
 have j2 : (i : Int) < (n.cals.length : Int) := by omega
 clear hc0 hc hx
 clear hbl hA
 go_wp2_with fail
 refine (rvalid_any x _ HI.out).mono ?_
 rintro e w2 ⟨rfl, hb⟩
 have HB := Lib.hid hb; clear hb
 go_wp2_with fail
 go_ret
 exact ⟨rfl, by have h := HB0.out; rw [<- HX.out] at h; exact bt h HB.out⟩
theorem numbers_3 (n : Net) (i : Nat) (x : Off) (w : World) (hn : NetIn w n) (hx : n.offs[i]? = some x) :
  Calls Tryz.prog 205 #[netV n, iV 3, iV i] w fun e w' => e = .returned (.bool (officeB n x)) /\ Below w.heap.size w w' := by
 have hb0 := ba w (netO n)
 have hx0 := heap_alloc_new w (netO n)
 have HNP : Hid (NetP (w.alloc (netO n)) w.heap.size n) := ⟨fun i v hv => (cell_of_row _ _ _ _ _ _ hx0).trans hv, hn.below hb0⟩
 have HB0 := Lib.hid hb0
 have HL := Lib.hid hn.lens
 have hlen := hn.lens
 unfold maxLen at hlen
 clear hn hb0 hx0
 go_enter Tryz.func205, Tryz.ntmps205
 go_upto_region 1 with fail
 change Code.wp _ _ _ _ (w.alloc (netO n))
 generalize (w.alloc (netO n)) = W at *
 generalize hX : w.heap.size = X at *
 have HX := Lib.hid hX; clear hX
 have hI : OffIn W x := HNP.out.net.off x (List.mem_of_getElem? hx)
 have HI := Lib.hid hI; clear hI
 obtain ⟨hlt, b, off, hA, hbl, hc0, hc⟩ := elem_at encOff_len HNP.out.net.offs hx (by omega)
 have n3 : W.cell? ⟨X, 3, none⟩ = some (.slice n.offA n.offs.length n.offC) := HNP.out.box 3 _ rfl
 rw [hA] at n3
 have n0 : W.cell? ⟨X, 0, none⟩ = some (.slice n.calA n.cals.length n.calC) := HNP.out.box 0 _ rfl
 have n1 : W.cell? ⟨X, 1, none⟩ = some (.slice n.namA n.names.length n.namC) := HNP.out.box 1 _ rfl
 have n2 : W.cell? ⟨X, 2, none⟩ = some (.slice n.opA n.ops.length n.opC) := HNP.out.box 2 _ rfl
 have n4 : W.cell? ⟨X, 4, none⟩ = some (.slice n.linA n.lins.length n.linC) := HNP.out.box 4 _ rfl
 have n5 : W.cell? ⟨X, 5, none⟩ = some (.slice n.clsA n.clss.length n.clsC) := HNP.out.box 5 _ rfl
 have x0 : W.cell? ⟨b, off + i * 7, none⟩ = some (sV x.name) := hc0 _ rfl
 have x1 : W.cell? ⟨b, off + i * 7 + 1, none⟩ = some (iV x.op) := hc 1 _ rfl
 have x2 : W.cell? ⟨b, off + i * 7 + 2, none⟩ = some (iV x.cal) := hc 2 _ rfl
 have x3 : W.cell? ⟨b, off + i * 7 + 3, none⟩ = some (iV x.pockets) := hc 3 _ rfl
 have x4 : W.cell? ⟨b, off + i * 7 + 4, none⟩ = some (iV x.passes) := hc 4 _ rfl
 have x5 : W.cell? ⟨b, off + i * 7 + 5, none⟩ = some (iV x.minutes) := hc 5 _ rfl
 have x6 : W.cell? ⟨b, off + i * 7 + 6, none⟩ = some (.slice x.cA x.codes.length x.cc) := hc 6 _ rfl
 have j1 : (0 : Int) <= (i : Int) := by omega
 have j2 : (i : Int) < (n.offs.length : Int) := by omega
 clear hc0 hc hx
 have hXl := World.block_lt_of_cell? W _ n3
 have HS : Hid (∀ w', Below W.heap.size W w' -> w'.cell? ⟨X, 0, none⟩ = some (.slice n.calA n.cals.length n.calC) /\ w'.cell? ⟨X, 1, none⟩ = some (.slice n.namA n.names.length n.namC) /\ w'.cell? ⟨X, 2, none⟩ = some (.slice n.opA n.ops.length n.opC) /\ w'.cell? ⟨X, 3, none⟩ = some (.slice (some ⟨b, off, none⟩) n.offs.length n.offC) /\ w'.cell? ⟨X, 4, none⟩ = some (.slice n.linA n.lins.length n.linC) /\ w'.cell? ⟨X, 5, none⟩ = some (.slice n.clsA n.clss.length n.clsC) /\ w'.cell? ⟨b, off + i * 7, none⟩ = some (sV x.name) /\ w'.cell? ⟨b, off + i * 7 + 1, none⟩ = some (iV x.op) /\ w'.cell? ⟨b, off + i * 7 + 2, none⟩ = some (iV x.cal) /\ w'.cell? ⟨b, off + i * 7 + 3, none⟩ = some (iV x.pockets) /\ w'.cell? ⟨b, off + i * 7 + 4, none⟩ = some (iV x.passes) /\ w'.cell? ⟨b, off + i * 7 + 5, none⟩ = some (iV x.minutes) /\ w'.cell? ⟨b, off + i * 7 + 6, none⟩ = some (.slice x.cA x.codes.length x.cc)) := fun w' hb => ⟨(hb.cell (p := ⟨X, 0, none⟩) hXl).trans n0, (hb.cell (p := ⟨X, 1, none⟩) hXl).trans n1, (hb.cell (p := ⟨X, 2, none⟩) hXl).trans n2, (hb.cell (p := ⟨X, 3, none⟩) hXl).trans n3, (hb.cell (p := ⟨X, 4, none⟩) hXl).trans n4, (hb.cell (p := ⟨X, 5, none⟩) hXl).trans n5, (hb.cell (p := ⟨b, _, none⟩) hbl).trans x0, (hb.cell (p := ⟨b, _, none⟩) hbl).trans x1, (hb.cell (p := ⟨b, _, none⟩) hbl).trans x2, (hb.cell (p := ⟨b, _, none⟩) hbl).trans x3, (hb.cell (p := ⟨b, _, none⟩) hbl).trans x4, (hb.cell (p := ⟨b, _, none⟩) hbl).trans x5, (hb.cell (p := ⟨b, _, none⟩) hbl).trans x6⟩
 clear hXl
 have HCALL : Hid (∀ w', Below W.heap.size W w' -> Calls Tryz.prog 210 #[.agg #[.slice n.calA n.cals.length n.calC, .slice n.namA n.names.length n.namC, .slice n.opA n.ops.length n.opC, .slice (some ⟨b, off, none⟩) n.offs.length n.offC, .slice n.linA n.lins.length n.linC, .slice n.clsA n.clss.length n.clsC], offV x] w' fun e w2 => e = .returned (.bool (officeB n x)) /\ Below w'.heap.size w' w2) := fun w' hb => by
  have h := roffice_any n x w' (HI.out.below hb) ⟨HL.out.2.2.1, HL.out.1⟩
  simp only [netV, hA] at h
  exact h
 clear hbl hA
 go_wp2_with fail
 go_region_held3 (fun w' => w'.cell? ⟨X, 0, none⟩ = some (.slice n.calA n.cals.length n.calC) /\ w'.cell? ⟨X, 1, none⟩ = some (.slice n.namA n.names.length n.namC) /\ w'.cell? ⟨X, 2, none⟩ = some (.slice n.opA n.ops.length n.opC) /\ w'.cell? ⟨X, 3, none⟩ = some (.slice (some ⟨b, off, none⟩) n.offs.length n.offC) /\ w'.cell? ⟨X, 4, none⟩ = some (.slice n.linA n.lins.length n.linC) /\ w'.cell? ⟨X, 5, none⟩ = some (.slice n.clsA n.clss.length n.clsC) /\ w'.cell? ⟨b, off + i * 7, none⟩ = some (sV x.name) /\ w'.cell? ⟨b, off + i * 7 + 1, none⟩ = some (iV x.op) /\ w'.cell? ⟨b, off + i * 7 + 2, none⟩ = some (iV x.cal) /\ w'.cell? ⟨b, off + i * 7 + 3, none⟩ = some (iV x.pockets) /\ w'.cell? ⟨b, off + i * 7 + 4, none⟩ = some (iV x.passes) /\ w'.cell? ⟨b, off + i * 7 + 5, none⟩ = some (iV x.minutes) /\ w'.cell? ⟨b, off + i * 7 + 6, none⟩ = some (.slice x.cA x.codes.length x.cc)) (first | (with_reducible exact HS.out _ (b_drew (Below.refl _ _))) | (with_reducible exact HS.out _ HB.out)) ((go_at_call 210; refine (HCALL.out _ (b_drew (Below.refl _ _))).mono ?_; rintro e w2 ⟨rfl, hb⟩; have HB := Lib.hid (bdr hb); clear hb))
 go_wp2_with fail
 go_ret
 exact ⟨rfl, by have h := HB0.out; rw [<- HX.out] at h; exact bt h HB.out⟩
theorem numbers_4 (n : Net) (i : Nat) (x : Lin) (w : World) (hn : NetIn w n) (hx : n.lins[i]? = some x) :
  Calls Tryz.prog 205 #[netV n, iV 4, iV i] w fun e w' => e = .returned (.bool (lineB n x)) /\ Below w.heap.size w w' := by
 have hb0 := ba w (netO n)
 have hx0 := heap_alloc_new w (netO n)
 have HNP : Hid (NetP (w.alloc (netO n)) w.heap.size n) := ⟨fun i v hv => (cell_of_row _ _ _ _ _ _ hx0).trans hv, hn.below hb0⟩
 have HB0 := Lib.hid hb0
 have HL := Lib.hid hn.lens
 have hlen := hn.lens
 unfold maxLen at hlen
 clear hn hb0 hx0
 go_enter Tryz.func205, Tryz.ntmps205
 go_upto_region 1 with fail
 change Code.wp _ _ _ _ (w.alloc (netO n))
 generalize (w.alloc (netO n)) = W at *
 generalize hX : w.heap.size = X at *
 have HX := Lib.hid hX; clear hX
 have hI : True := trivial
 have HI := Lib.hid hI; clear hI
 obtain ⟨hlt, b, off, hA, hbl, hc0, hc⟩ := elem_at encLin_len HNP.out.net.lins hx (by omega)
 have n4 : W.cell? ⟨X, 4, none⟩ = some (.slice n.linA n.lins.length n.linC) := HNP.out.box 4 _ rfl
 rw [hA] at n4
 have n0 : W.cell? ⟨X, 0, none⟩ = some (.slice n.calA n.cals.length n.calC) := HNP.out.box 0 _ rfl
 have n1 : W.cell? ⟨X, 1, none⟩ = some (.slice n.namA n.names.length n.namC) := HNP.out.box 1 _ rfl
 have n2 : W.cell? ⟨X, 2, none⟩ = some (.slice n.opA n.ops.length n.opC) := HNP.out.box 2 _ rfl
 have n3 : W.cell? ⟨X, 3, none⟩ = some (.slice n.offA n.offs.length n.offC) := HNP.out.box 3 _ rfl
 have n5 : W.cell? ⟨X, 5, none⟩ = some (.slice n.clsA n.clss.length n.clsC) := HNP.out.box 5 _ rfl
 have x0 : W.cell? ⟨b, off + i * 6, none⟩ = some (sV x.name) := hc0 _ rfl
 have x1 : W.cell? ⟨b, off + i * 6 + 1, none⟩ = some (iV x.frm) := hc 1 _ rfl
 have x2 : W.cell? ⟨b, off + i * 6 + 2, none⟩ = some (iV x.to) := hc 2 _ rfl
 have x3 : W.cell? ⟨b, off + i * 6 + 3, none⟩ = some (iV x.at_) := hc 3 _ rfl
 have x4 : W.cell? ⟨b, off + i * 6 + 4, none⟩ = some (iV x.travel) := hc 4 _ rfl
 have x5 : W.cell? ⟨b, off + i * 6 + 5, none⟩ = some (iV x.load) := hc 5 _ rfl
 have j1 : (0 : Int) <= (i : Int) := by omega
 have j2 : (i : Int) < (n.lins.length : Int) := by omega
 clear hc0 hc hx
 have hXl := World.block_lt_of_cell? W _ n4
 have HS : Hid (∀ w', Below W.heap.size W w' -> w'.cell? ⟨X, 0, none⟩ = some (.slice n.calA n.cals.length n.calC) /\ w'.cell? ⟨X, 1, none⟩ = some (.slice n.namA n.names.length n.namC) /\ w'.cell? ⟨X, 2, none⟩ = some (.slice n.opA n.ops.length n.opC) /\ w'.cell? ⟨X, 3, none⟩ = some (.slice n.offA n.offs.length n.offC) /\ w'.cell? ⟨X, 4, none⟩ = some (.slice (some ⟨b, off, none⟩) n.lins.length n.linC) /\ w'.cell? ⟨X, 5, none⟩ = some (.slice n.clsA n.clss.length n.clsC) /\ w'.cell? ⟨b, off + i * 6, none⟩ = some (sV x.name) /\ w'.cell? ⟨b, off + i * 6 + 1, none⟩ = some (iV x.frm) /\ w'.cell? ⟨b, off + i * 6 + 2, none⟩ = some (iV x.to) /\ w'.cell? ⟨b, off + i * 6 + 3, none⟩ = some (iV x.at_) /\ w'.cell? ⟨b, off + i * 6 + 4, none⟩ = some (iV x.travel) /\ w'.cell? ⟨b, off + i * 6 + 5, none⟩ = some (iV x.load)) := fun w' hb => ⟨(hb.cell (p := ⟨X, 0, none⟩) hXl).trans n0, (hb.cell (p := ⟨X, 1, none⟩) hXl).trans n1, (hb.cell (p := ⟨X, 2, none⟩) hXl).trans n2, (hb.cell (p := ⟨X, 3, none⟩) hXl).trans n3, (hb.cell (p := ⟨X, 4, none⟩) hXl).trans n4, (hb.cell (p := ⟨X, 5, none⟩) hXl).trans n5, (hb.cell (p := ⟨b, _, none⟩) hbl).trans x0, (hb.cell (p := ⟨b, _, none⟩) hbl).trans x1, (hb.cell (p := ⟨b, _, none⟩) hbl).trans x2, (hb.cell (p := ⟨b, _, none⟩) hbl).trans x3, (hb.cell (p := ⟨b, _, none⟩) hbl).trans x4, (hb.cell (p := ⟨b, _, none⟩) hbl).trans x5⟩
 clear hXl
 have HCALL : Hid (∀ w', Below W.heap.size W w' -> Calls Tryz.prog 211 #[.agg #[.slice n.calA n.cals.length n.calC, .slice n.namA n.names.length n.namC, .slice n.opA n.ops.length n.opC, .slice n.offA n.offs.length n.offC, .slice (some ⟨b, off, none⟩) n.lins.length n.linC, .slice n.clsA n.clss.length n.clsC], linV x] w' fun e w2 => e = .returned (.bool (lineB n x)) /\ Below w'.heap.size w' w2) := fun w' hb => by
  have h := rline_any n x w' HL.out.2.2.2.1
  simp only [netV, hA] at h
  exact h
 clear hbl hA
 go_wp2_with fail
 go_region_held3 (fun w' => w'.cell? ⟨X, 0, none⟩ = some (.slice n.calA n.cals.length n.calC) /\ w'.cell? ⟨X, 1, none⟩ = some (.slice n.namA n.names.length n.namC) /\ w'.cell? ⟨X, 2, none⟩ = some (.slice n.opA n.ops.length n.opC) /\ w'.cell? ⟨X, 3, none⟩ = some (.slice n.offA n.offs.length n.offC) /\ w'.cell? ⟨X, 4, none⟩ = some (.slice (some ⟨b, off, none⟩) n.lins.length n.linC) /\ w'.cell? ⟨X, 5, none⟩ = some (.slice n.clsA n.clss.length n.clsC) /\ w'.cell? ⟨b, off + i * 6, none⟩ = some (sV x.name) /\ w'.cell? ⟨b, off + i * 6 + 1, none⟩ = some (iV x.frm) /\ w'.cell? ⟨b, off + i * 6 + 2, none⟩ = some (iV x.to) /\ w'.cell? ⟨b, off + i * 6 + 3, none⟩ = some (iV x.at_) /\ w'.cell? ⟨b, off + i * 6 + 4, none⟩ = some (iV x.travel) /\ w'.cell? ⟨b, off + i * 6 + 5, none⟩ = some (iV x.load)) (first | (with_reducible exact HS.out _ (b_drew (Below.refl _ _))) | (with_reducible exact HS.out _ HB.out)) ((go_at_call 211; refine (HCALL.out _ (b_drew (Below.refl _ _))).mono ?_; rintro e w2 ⟨rfl, hb⟩; have HB := Lib.hid (bdr hb); clear hb))
 go_wp2_with fail
 go_ret
 exact ⟨rfl, by have h := HB0.out; rw [<- HX.out] at h; exact bt h HB.out⟩
theorem numbers_5 (n : Net) (i : Nat) (x : Cls) (w : World) (hn : NetIn w n) (hx : n.clss[i]? = some x) :
  Calls Tryz.prog 205 #[netV n, iV 5, iV i] w fun e w' => e = .returned (.bool (clsB x)) /\ Below w.heap.size w w' := by
 have hb0 := ba w (netO n)
 have hx0 := heap_alloc_new w (netO n)
 have HNP : Hid (NetP (w.alloc (netO n)) w.heap.size n) := ⟨fun i v hv => (cell_of_row _ _ _ _ _ _ hx0).trans hv, hn.below hb0⟩
 have HB0 := Lib.hid hb0
 have HL := Lib.hid hn.lens
 have hlen := hn.lens
 unfold maxLen at hlen
 clear hn hb0 hx0
 go_enter Tryz.func205, Tryz.ntmps205
 go_upto_region 1 with fail
 change Code.wp _ _ _ _ (w.alloc (netO n))
 generalize (w.alloc (netO n)) = W at *
 generalize hX : w.heap.size = X at *
 have HX := Lib.hid hX; clear hX
 have hI : True := trivial
 have HI := Lib.hid hI; clear hI
 obtain ⟨hlt, b, off, hA, hbl, hc0, hc⟩ := elem_at encCls_len HNP.out.net.clss hx (by omega)
 have n5 : W.cell? ⟨X, 5, none⟩ = some (.slice n.clsA n.clss.length n.clsC) := HNP.out.box 5 _ rfl
 rw [hA] at n5
 have x0 : W.cell? ⟨b, off + i * 3, none⟩ = some (sV x.name) := hc0 _ rfl
 have x1 : W.cell? ⟨b, off + i * 3 + 1, none⟩ = some (iV x.cut) := hc 1 _ rfl
 have x2 : W.cell? ⟨b, off + i * 3 + 2, none⟩ = some (iV x.deliver) := hc 2 _ rfl
 have j1 : (0 : Int) <= (i : Int) := by omega
 have j2 : (i : Int) < (n.clss.length : Int) := by omega
 clear hc0 hc hx
 clear hbl hA
 have HC : Hid (clsB x = (fromB x.cut 0 1439 && fromB x.deliver 0 1439)) := rfl
 have HB : Hid (Below w.heap.size w W) := by have h := HB0.out; rw [<- HX.out] at h; exact h
 go_wp2_with fail
 refine (between_any _ _ _ _).mono ?_
 rintro e w2 ⟨rfl, rfl⟩
 cases hc : fromB x.cut 0 1439
 ·rw [hc] at HC
  simp only [Bool.false_and] at HC
  go_wp2_with fail
  go_ret
  exact ⟨ret_bool HC.out.symm, HB.out⟩
 rw [hc] at HC
 simp only [Bool.true_and] at HC
 clear hc
 go_wp2_with fail
 refine (between_any _ _ _ _).mono ?_
 rintro e w2 ⟨rfl, rfl⟩
 go_wp2_with fail
 go_ret
 exact ⟨ret_bool HC.out.symm, HB.out⟩
theorem numbers_2 (n : Net) (i : Nat) (w : World) :
  Calls Tryz.prog 205 #[netV n, iV 2, iV i] w fun e w' => e = .returned (.bool true) /\ Below w.heap.size w w' := by
 have HB0 := Lib.hid (ba w (netO n))
 go_enter Tryz.func205, Tryz.ntmps205
 go_wp2_with fail
 go_ret
 exact ⟨rfl, HB0.out⟩
theorem names_any (K : Nat) (h1 : 1 <= K) (h2 : K <= 5) (n : Net) (w : World) (hn : NetIn w n) (hf : FewN n) :
  Calls Tryz.prog 181 #[netV n, iV K] w (NamesR w (nmsOf n K)) := by
 rcases (by omega : K = 1 ∨ K = 2 ∨ K = 3 ∨ K = 4 ∨ K = 5) with rfl | rfl | rfl | rfl | rfl
 ·exact names_1 n w hn hf
 ·exact names_2 n w hn hf
 ·exact names_3 n w hn hf
 ·exact names_4 n w hn hf
 ·exact names_5 n w hn hf
def numB (n : Net) : Nat -> Nat -> Bool
 | 1, i => calB (n.cals.getD i zCal)
 | 2, _ => true
 | 3, i => officeB n (offAt n i)
 | 4, i => lineB n (linAt n i)
 | _, i => clsB (clsAt n i)
theorem nms_len (n : Net) : (nmsOf n 1).length = n.cals.length /\ (nmsOf n 2).length = n.ops.length /\ (nmsOf n 3).length = n.offs.length /\ (nmsOf n 4).length = n.lins.length /\ (nmsOf n 5).length = n.clss.length := by simp [nmsOf]
theorem numbers_any (K : Nat) (h1 : 1 <= K) (h2 : K <= 5) (n : Net) (i : Nat) (w : World) (hn : NetIn w n) (hi : i < (nmsOf n K).length) :
  Calls Tryz.prog 205 #[netV n, iV K, iV i] w fun e w' => e = .returned (.bool (numB n K i)) /\ Below w.heap.size w w' := by
 obtain ⟨l1, l2, l3, l4, l5⟩ := nms_len n
 rcases (by omega : K = 1 ∨ K = 2 ∨ K = 3 ∨ K = 4 ∨ K = 5) with rfl | rfl | rfl | rfl | rfl
 ·rw [l1] at hi
  exact numbers_1 n i _ w hn (by simp [List.getD, hi])
 ·exact numbers_2 n i w
 ·rw [l3] at hi
  exact numbers_3 n i _ w hn (offAt_get hi)
 ·rw [l4] at hi
  exact numbers_4 n i _ w hn (linAt_get hi)
 ·rw [l5] at hi
  exact numbers_5 n i _ w hn (clsAt_get hi)
def nmAt (n : Net) (K j : Nat) : List UInt8 := (nmsOf n K).getD j []
theorem nmAt_get {n : Net} {K j : Nat} (h : j < (nmsOf n K).length) : (nmsOf n K)[j]? = some (nmAt n K j) := by unfold nmAt; simp [List.getD, h]
def ErrOk (n : Net) (K i : Nat) : Prop := nameB (nmAt n K i) = true /\ freshB (nmAt n K) i = true /\ numB n K i = true
theorem fresh_iff (nm : Nat -> List UInt8) (i : Nat) : freshB nm i = true ↔ ∀ j < i, nm j ≠ nm i := by
 unfold freshB
 simp [List.all_eq_true]
theorem errno_any (K : Nat) (h1 : 1 <= K) (h2 : K <= 5) (n : Net) (A : Option Addr) (c i : Nat) (w : World) (hn : NetIn w n) (hi : i < (nmsOf n K).length) (hl : (nmsOf n K).length <= 50) (hs : ∀ s ∈ nmsOf n K, s.length <= maxLen) (hR : Rd w A ((nmsOf n K).map sV)) :
  Calls Tryz.prog 197 #[netV n, iV K, .slice A (nmsOf n K).length c, iV i] w fun e w' => ∃ v : Nat, e = .returned (iV v) /\ v <= 4 /\ (v = 0 ↔ ErrOk n K i) /\ Below w.heap.size w w' := by
 have hb0 := ba w (netO n)
 have hx0 := heap_alloc_new w (netO n)
 have HNP : Hid (NetP (w.alloc (netO n)) w.heap.size n) := ⟨fun i v hv => (cell_of_row _ _ _ _ _ _ hx0).trans hv, hn.below hb0⟩
 have HB0 := Lib.hid hb0
 have HR := Lib.hid (hR.below hb0)
 have HS := Lib.hid hs
 have H1 := Lib.hid h1
 have H2 := Lib.hid h2
 have HI := Lib.hid hi
 clear hn hb0 hx0 hR hs h1 h2
 go_enter Tryz.func197, Tryz.ntmps197
 go_upto_region 1 with fail
 change Code.wp _ _ _ _ (w.alloc (netO n))
 generalize (w.alloc (netO n)) = W at *
 generalize hX : w.heap.size = X at *
 have HX := Lib.hid hX; clear hX
 have HXB : Hid (∀ wr, Below W.heap.size W wr -> Below w.heap.size w wr) := fun wr hb => by
  have h := HB0.out
  rw [<- HX.out] at h
  exact bt h hb
 obtain ⟨b, off, hA, -, hc⟩ := HR.out.get (i := i) (by rw [List.length_map]; exact hi)
 have HC : Hid (∀ wr, Below W.heap.size W wr -> ∀ j, j < (nmsOf n K).length -> wr.cell? ⟨b, off + j, none⟩ = some (sV (nmAt n K j))) := fun wr hb j hj => by
  obtain ⟨b', off', hA', -, hc'⟩ := (HR.out.below hb).get (i := j) (by rw [List.length_map]; exact hj)
  rw [hA] at hA'
  cases hA'
  exact hc' j _ (by rw [List.getElem?_map, nmAt_get hj]; rfl)
 have x0 := HC.out _ (Below.refl _ _) i hi
 have HNM : Hid ((nmAt n K i).length <= maxLen) := HS.out _ (List.mem_of_getElem? (nmAt_get hi))
 rw [hA]
 clear hc hA
 generalize hm : (nmsOf n K).length = m at *
 have HM := Lib.hid hm; clear hm
 have j1 : (0 : Int) <= (i : Int) := by omega
 have j2 : (i : Int) < (m : Int) := by omega
 go_wp2_with fail
 refine (rname_any _ _ HNM.out).mono ?_
 rintro e w2 ⟨rfl, hb⟩
 have HB := Lib.hid hb; clear hb x0
 cases hnb : nameB (nmAt n K i)
 case false =>
  have HF : Hid ((1 : Nat) = 0 ↔ ErrOk n K i) := ⟨fun h => by omega, fun h => by rw [h.1] at hnb; cases hnb⟩
  clear hnb
  go_wp2_with fail
  go_ret
  exact ⟨1, rfl, by omega, HF.out, HXB.out _ HB.out⟩
 have HNB := Lib.hid hnb; clear hnb
 go_wp2_with fail
 go_loopw [10] (fun k wr => ∃ j q : Nat, j <= i /\ k = iV j /\ wr = w2.drewN q /\ Hid (∀ z, z < j -> nmAt n K z ≠ nmAt n K i)) (fun k _ => 60 - (intOf k).toNat)
 case atStart => exact ⟨0, 0, by omega, rfl, rfl, fun z h => by omega⟩
 case round =>
  obtain ⟨j, q, hj, rfl, rfl, HQ⟩ := hrel
  have m0 : (0 : Int) <= (j : Int) := by omega
  by_cases hlt : j < i
  ·have m1 : (j : Int) < (i : Int) := by omega
   have m2 : (j : Int) < (m : Int) := by omega
   have x1 : w2.cell? ⟨b, off + i, none⟩ = some (sV (nmAt n K i)) := HC.out _ HB.out i hi
   have x2 : w2.cell? ⟨b, off + j, none⟩ = some (sV (nmAt n K j)) := HC.out _ HB.out j (by omega)
   cases he : nmAt n K j == nmAt n K i
   case true =>
    have HF : Hid ((4 : Nat) = 0 ↔ ErrOk n K i) := ⟨fun h => by omega, fun h => absurd (by simpa using he) ((fresh_iff _ _).1 h.2.1 j hlt)⟩
    go_wp2_with fail
    go_quiet (fail)
    go_wp2_with fail
    go_ret
    exact ⟨4, rfl, by omega, HF.out, HXB.out _ (below_drewN (below_drewN HB.out _) _)⟩
   case false =>
    have HN : Hid (∀ z, z < j + 1 -> nmAt n K z ≠ nmAt n K i) := fun z hz => by
     rcases Nat.lt_or_ge z j with h | h
     ·exact HQ.out z h
     ·obtain rfl : z = j := by omega
      simpa using he
    go_wp2_with fail
    go_quiet (fail)
    go_wp2_with fail
    go_roundw
    case rel => exact ⟨j + 1, _, by omega, by go_num, rfl, HN.out⟩
    case measure => simp [intOf]; omega
  ·have m1 : ¬ (j : Int) < (i : Int) := by omega
   have HFR : Hid (freshB (nmAt n K) i = true) := (fresh_iff _ _).2 fun z hz => HQ.out z (by omega)
   have hnp := HNP.out.below (below_drewN HB.out q)
   have n0 : (w2.drewN q).cell? ⟨X, 0, none⟩ = some (.slice n.calA n.cals.length n.calC) := hnp.box 0 _ rfl
   have n1 : (w2.drewN q).cell? ⟨X, 1, none⟩ = some (.slice n.namA n.names.length n.namC) := hnp.box 1 _ rfl
   have n2 : (w2.drewN q).cell? ⟨X, 2, none⟩ = some (.slice n.opA n.ops.length n.opC) := hnp.box 2 _ rfl
   have n3 : (w2.drewN q).cell? ⟨X, 3, none⟩ = some (.slice n.offA n.offs.length n.offC) := hnp.box 3 _ rfl
   have n4 : (w2.drewN q).cell? ⟨X, 4, none⟩ = some (.slice n.linA n.lins.length n.linC) := hnp.box 4 _ rfl
   have n5 : (w2.drewN q).cell? ⟨X, 5, none⟩ = some (.slice n.clsA n.clss.length n.clsC) := hnp.box 5 _ rfl
   have HNI := Lib.hid hnp.net
   have HBQ : Hid (Below W.heap.size W (w2.drewN q)) := below_drewN HB.out q
   clear hnp
   generalize w2.drewN q = w3 at *
   go_wp2_with fail
   refine (numbers_any K H1.out H2.out n i _ HNI.out (by rw [HM.out]; exact hi)).mono ?_
   rintro e w4 ⟨rfl, hb⟩
   have HB2 := Lib.hid (bt HBQ.out hb); clear hb n0 n1 n2 n3 n4 n5
   cases hnu : numB n K i
   case false =>
    have HF : Hid ((1 : Nat) = 0 ↔ ErrOk n K i) := ⟨fun h => by omega, fun h => by rw [h.2.2] at hnu; cases hnu⟩
    clear hnu
    go_wp2_with fail
    go_ret
    exact ⟨1, rfl, by omega, HF.out, HXB.out _ HB2.out⟩
   case true =>
    have HF : Hid (ErrOk n K i) := ⟨HNB.out, HFR.out, hnu⟩
    clear hnu
    go_wp2_with fail
    go_ret
    exact ⟨0, rfl, by omega, ⟨fun _ => HF.out, fun _ => rfl⟩, HXB.out _ HB2.out⟩
end Go.Proofs.YtpeaiphdkgifaaaGreatDoor
