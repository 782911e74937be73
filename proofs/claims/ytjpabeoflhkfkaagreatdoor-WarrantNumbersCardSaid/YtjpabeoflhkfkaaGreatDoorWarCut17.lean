/-
  The walks over the reference's calendar (Time, Work) and over the reference's Cutoffs.
-/
import Derived.Test.YtjpabeoflhkfkaaGreatDoorWarHdr
import Derived.Test.YtjpabeoflhkfkaaGreatDoorWarNums
import Derived.Test.YtjpabeoflhkfkaaGreatDoorPs
namespace Go.Proofs.YtjpabeoflhkfkaaGreatDoor
open Go.RowKit
attribute [local go_sem] Oper.semAt_some

theorem tmod_fix (a b : Int) (hb : 0 < b) : a % b = if a.tmod b < 0 then a.tmod b + b else a.tmod b := by
  have ht1 := Int.tmod_lt_of_pos a hb
  have ht2 : -b < a.tmod b := by
    have := Int.tmod_lt_of_pos (-a) hb
    rw [Int.neg_tmod] at this
    omega
  rcases (by omega : a < 0 ∨ 0 ≤ a) with h | h
  · by_cases hz : a.tmod b < 0
    · rw [if_pos hz]
      have hd := Int.mul_tdiv_add_tmod a b
      have key : a % b = ((a.tmod b + b) + b * (a.tdiv b - 1)) % b := by
        congr 1
        rw [Int.mul_sub, Int.mul_one]
        omega
      rw [key, Int.add_mul_emod_self_left]
      exact Int.emod_eq_of_lt (by omega) (by omega)
    · rw [if_neg hz]
      have hd := Int.mul_tdiv_add_tmod a b
      have : a = a.tmod b + b * a.tdiv b := by omega
      rw [show a % b = (a.tmod b + b * a.tdiv b) % b by rw [← this], Int.add_mul_emod_self_left]
      exact Int.emod_eq_of_lt (by omega) ht1
  · have hz : ¬ a.tmod b < 0 := by have := Int.tmod_nonneg b h; omega
    rw [if_neg hz]
    exact (Int.tmod_eq_emod_of_nonneg h).symm
set_option maxHeartbeats 1000000 in
theorem floor_any (d : Int) (w : World) (hd : dayR d = true) : Calls Tryz.prog 125 #[iV d, iV 7] w fun e w' => (∃ q, e = .returned (.tuple #[iV q, iV (d % 7)])) ∧ w = w' := by
  have hd' : -1000000 ≤ d ∧ d ≤ 1000000 := by unfold dayR at hd; simpa using hd
  obtain ⟨d1, d2⟩ := hd'
  have ht1 := Int.tmod_lt_of_pos d (show (0 : Int) < 7 by omega)
  have ht2 : -7 < d.tmod 7 := by
    have := Int.tmod_lt_of_pos (-d) (show (0 : Int) < 7 by omega)
    rw [Int.neg_tmod] at this
    omega
  have hq := Int.mul_tdiv_add_tmod d 7
  have hq1 : -1000001 ≤ d.tdiv 7 := by omega
  have hq2 : d.tdiv 7 ≤ 1000001 := by omega
  have HE := Lib.hid (tmod_fix d 7 (by omega))
  clear hd hq
  by_cases hz : d.tmod 7 < 0
  · go_enter Tryz.func125, Tryz.ntmps125
    go_wp2_with fail
    go_ret2
    exact ⟨⟨d.tdiv 7 - 1, by rw [HE.out, if_pos hz]; rfl⟩, rfl⟩
  · go_enter Tryz.func125, Tryz.ntmps125
    go_wp2_with fail
    go_ret2
    exact ⟨⟨d.tdiv 7, by rw [HE.out, if_neg (by omega)]; rfl⟩, rfl⟩
set_option maxHeartbeats 1000000 in
theorem range02_any (d : Int) (w : World) (hd : dayR d = true) : Calls Tryz.prog 88 #[iV d] w fun e w' => e = .returned (.bool true) ∧ w = w' := by
  have hd' : -1000000 ≤ d ∧ d ≤ 1000000 := by unfold dayR at hd; simpa using hd
  obtain ⟨d1, d2⟩ := hd'
  clear hd
  go_enter Tryz.func88, Tryz.ntmps88
  go_wp2_with fail
  go_ret
  exact ⟨rfl, rfl⟩
set_option maxHeartbeats 2000000 in
set_option maxRecDepth 100000 in
theorem holi02_any (c : Cal) (d : Int) (w : World) (hc : CalIn w c) (hv : calB c = true) :
    Calls Tryz.prog 126 #[calV c, iV d] w fun e w' => e = .returned (.bool (decide (d ∈ c.hol))) ∧ Below w.heap.size w w' := by
  obtain ⟨-, -, hA, -, -, -⟩ := hc
  have HB := Lib.hid (ba w (.cells (encCal c).toArray 58))
  have HA := Lib.hid (hA.below HB.out); clear hA
  have hh := (calB_zone hv).2.2.2.1
  have hbox := cal_box w c 58
  unfold encCal at HA HB hbox
  obtain ⟨k0, k1, k2⟩ := hbox
  clear hv
  go_enter Tryz.func126, Tryz.ntmps126
  go_upto_region 1 with fail
  change Code.wp _ _ _ _ (w.alloc (.cells #[iV c.zone, .slice c.wA c.week.length c.wc, .slice c.hA c.hol.length c.hc] 58))
  generalize (w.alloc (.cells #[iV c.zone, .slice c.wA c.week.length c.wc, .slice c.hA c.hol.length c.hc] 58)) = W0 at *
  go_wp2_with fail
  go_loop [5] (fun i => ∃ k : Nat, k ≤ c.hol.length ∧ i = iV k ∧ d ∉ c.hol.take k) (fun i => c.hol.length + 1 - (intOf i).toNat)
  case atStart => exact ⟨0, by omega, rfl, by simp⟩
  case round =>
  obtain ⟨k, hk, rfl, hno⟩ := hrel
  have HN := Lib.hid hno; clear hno
  have j0 : (0 : Int) ≤ (k : Int) := by omega
  by_cases hlt : k < c.hol.length
  case neg =>
    have j1 : ¬ (k : Int) < (c.hol.length : Int) := by omega
    have HR : Hid (decide (d ∈ c.hol) = false) := decide_eq_false (fun h => HN.out (by rw [List.take_of_length_le (by omega)]; exact h))
    go_wp2_with fail
    go_ret
    exact ⟨ret_bool HR.out.symm, HB.out⟩
  have HLT := Lib.hid hlt
  have j1 : (k : Int) < (c.hol.length : Int) := by omega
  obtain ⟨x, hx⟩ : ∃ x, c.hol[k]? = some x := ⟨_, List.getElem?_eq_getElem hlt⟩
  obtain ⟨b, off, hAA, -, hcc⟩ := HA.out.get (i := k) (by simpa using hlt)
  have e1 : W0.cell? ⟨b, off + k, none⟩ = some (iV x) := hcc k _ (by rw [List.getElem?_map, hx]; rfl)
  have HXE := Lib.hid hx
  have HAE := Lib.hid hAA
  rw [hAA] at k2
  clear hAA hcc hx
  by_cases hxd : x = d
  case pos =>
    have e2 : (x == d) = true := by simpa using hxd
    have HR : Hid (decide (d ∈ c.hol) = true) := decide_eq_true (by rw [← hxd]; exact List.mem_of_getElem? HXE.out)
    clear hxd
    go_wp2_with fail
    go_ret
    exact ⟨ret_bool HR.out.symm, HB.out⟩
  have e2 : (x == d) = false := by simpa using hxd
  have HR : Hid (d ∉ c.hol.take (k + 1)) := by
    show d ∉ _
    rw [take_one HXE.out]
    intro h
    rcases List.mem_append.1 h with h | h
    · exact HN.out h
    · exact hxd (List.mem_singleton.1 h).symm
  clear hxd
  go_wp2_with fail
  go_round
  case rel => exact ⟨k + 1, by have := HLT.out; omega, by go_num, HR.out⟩
  case measure => have := HLT.out; simp [intOf]; omega
set_option maxHeartbeats 2000000 in
set_option maxRecDepth 100000 in
theorem working02_any (c : Cal) (d : Int) (w : World) (hc : CalIn w c) (hv : calB c = true) (hd : dayR d = true) :
    Calls Tryz.prog 89 #[calV c, iV d] w fun e w' => e = .returned (.bool (workB c d)) ∧ Below w.heap.size w w' := by
  have HB := Lib.hid (ba w (.cells (encCal c).toArray 58))
  have HC := Lib.hid (hc.below HB.out); clear hc
  have HL7 := Lib.hid (calB_zone hv).2.2.1
  have hbox := cal_box w c 58
  have HV := Lib.hid hv
  have HD := Lib.hid hd
  unfold encCal at HC HB hbox
  obtain ⟨k0, k1, k2⟩ := hbox
  obtain ⟨m, hm⟩ : ∃ m : Nat, d % 7 = (m : Int) := ⟨(d % 7).toNat, by omega⟩
  have hm7 : m < 7 := by omega
  have HWB : Hid (workB c d = (c.week.getD m false && !decide (d ∈ c.hol))) := by
    show _ = _
    unfold workB
    rw [hm]
    rfl
  have HM := Lib.hid hm
  clear hv hd hm
  go_enter Tryz.func89, Tryz.ntmps89
  go_upto_region 1 with fail
  change Code.wp _ _ _ _ (w.alloc (.cells #[iV c.zone, .slice c.wA c.week.length c.wc, .slice c.hA c.hol.length c.hc] 58))
  generalize (w.alloc (.cells #[iV c.zone, .slice c.wA c.week.length c.wc, .slice c.hA c.hol.length c.hc] 58)) = W0 at *
  go_wp2_with fail
  refine (floor_any d _ HD.out).mono ?_
  rintro e w' ⟨⟨q, rfl⟩, rfl⟩
  rw [HM.out]
  obtain ⟨b, off, hAA, -, hcc⟩ := HC.out.2.1.get (i := m) (by have := HL7.out; simp; omega)
  obtain ⟨wm, hwm⟩ : ∃ x, c.week[m]? = some x := ⟨_, List.getElem?_eq_getElem (by have := HL7.out; omega)⟩
  have e1 : W0.cell? ⟨b, off + m, none⟩ = some (oV wm) := hcc m _ (by rw [List.getElem?_map, hwm]; rfl)
  have HW2 : Hid (workB c d = (wm && !decide (d ∈ c.hol))) := by
    show _ = _
    rw [HWB.out, List.getD, hwm]
    rfl
  have HAE := Lib.hid hAA
  rw [hAA] at k1
  clear hAA hcc hwm HWB
  have m0 : (0 : Int) ≤ (m : Int) := by omega
  have m1 : (m : Int) < (c.week.length : Int) := by have := HL7.out; omega
  cases wm
  case false =>
    go_wp2_with fail
    go_ret
    exact ⟨ret_bool (by rw [HW2.out]; rfl), HB.out⟩
  go_wp2_with fail
  have HHO : Hid (∀ W, CalIn W c → Calls Tryz.prog 126 #[.agg #[iV c.zone, .slice (some ⟨b, off, none⟩) c.week.length c.wc, .slice c.hA c.hol.length c.hc], iV d] W fun e w' => e = .returned (.bool (!workB c d)) ∧ Below W.heap.size W w') := fun W h => by
    have := holi02_any c d W h HV.out
    rw [show decide (d ∈ c.hol) = !workB c d by rw [HW2.out]; simp] at this
    unfold calV at this
    rwa [HAE.out] at this
  clear HW2
  generalize hQ : workB c d = q2 at *
  have HQ := Lib.hid hQ; clear hQ
  refine (HHO.out _ HC.out).mono ?_
  rintro e w1 ⟨rfl, hb⟩
  have HB1 := Lib.hid (bt HB.out hb); clear hb
  cases q2
  all_goals
    go_wp2_with fail
    go_ret
    exact ⟨ret_bool (by rw [HQ.out]), HB1.out⟩
set_option maxHeartbeats 2000000 in
set_option maxRecDepth 100000 in
theorem work02_any (c : Cal) (d : Int) (w : World) (hc : CalIn w c) (hv : calB c = true) (hd : dayR d = true) :
    Calls Tryz.prog 39 #[calV c, iV d] w fun e w' => e = .returned (.bool (workB c d)) ∧ Below w.heap.size w w' := by
  have HB := Lib.hid (ba w (.cells (encCal c).toArray 58))
  have HC := Lib.hid (hc.below HB.out); clear hc
  have hbox := heap_alloc_new w (.cells (encCal c).toArray 58)
  have HV := Lib.hid hv
  have HD := Lib.hid hd
  unfold encCal at HC HB hbox
  have HX := Lib.hid hbox
  have k0 : (w.alloc (.cells #[iV c.zone, .slice c.wA c.week.length c.wc, .slice c.hA c.hol.length c.hc] 58)).cell? ⟨w.heap.size, 0, none⟩ = some (iV c.zone) := cell_of_row _ _ 0 _ _ _ hbox
  have k1 : (w.alloc (.cells #[iV c.zone, .slice c.wA c.week.length c.wc, .slice c.hA c.hol.length c.hc] 58)).cell? ⟨w.heap.size, 1, none⟩ = some (.slice c.wA c.week.length c.wc) := cell_of_row _ _ 1 _ _ _ hbox
  have k2 : (w.alloc (.cells #[iV c.zone, .slice c.wA c.week.length c.wc, .slice c.hA c.hol.length c.hc] 58)).cell? ⟨w.heap.size, 2, none⟩ = some (.slice c.hA c.hol.length c.hc) := cell_of_row _ _ 2 _ _ _ hbox
  clear hv hd hbox
  go_enter Tryz.func39, Tryz.ntmps39
  go_upto_region 1 with fail
  change Code.wp _ _ _ _ (w.alloc (.cells #[iV c.zone, .slice c.wA c.week.length c.wc, .slice c.hA c.hol.length c.hc] 58))
  generalize (w.alloc (.cells #[iV c.zone, .slice c.wA c.week.length c.wc, .slice c.hA c.hol.length c.hc] 58)) = W0 at *
  go_wp2_with fail
  refine (rvalid_any c _ HC.out).mono ?_
  rintro e w1 ⟨rfl, hb⟩
  rw [HV.out]
  have HB1 := Lib.hid (bt HB.out hb)
  have HC1 := Lib.hid (HC.out.below hb)
  have hx := (hb.block _ (block_lt HX.out)).trans HX.out
  clear hb k0 k1 k2 HX
  have k0 : w1.cell? ⟨w.heap.size, 0, none⟩ = some (iV c.zone) := cell_of_row _ _ 0 _ _ _ hx
  have k1 : w1.cell? ⟨w.heap.size, 1, none⟩ = some (.slice c.wA c.week.length c.wc) := cell_of_row _ _ 1 _ _ _ hx
  have k2 : w1.cell? ⟨w.heap.size, 2, none⟩ = some (.slice c.hA c.hol.length c.hc) := cell_of_row _ _ 2 _ _ _ hx
  clear hx
  go_wp2_with fail
  refine (range02_any d _ HD.out).mono ?_
  rintro e w' ⟨rfl, rfl⟩
  go_wp2_with fail
  refine (working02_any c d _ HC1.out HV.out HD.out).mono ?_
  rintro e w2 ⟨rfl, hb⟩
  have HB2 := Lib.hid (bt HB1.out hb); clear hb
  go_wp2_with fail
  go_ret
  exact ⟨rfl, HB2.out⟩
set_option maxHeartbeats 2000000 in
set_option maxRecDepth 100000 in
theorem time02_any (c : Cal) (d m : Int) (w : World) (hc : CalIn w c) (hv : calB c = true) (hd : dayR d = true) (h1 : 0 ≤ m) (h2 : m < 1440) :
    Calls Tryz.prog 38 #[calV c, iV d, iV m] w fun e w' => e = .returned (iV (timeOf c d m)) ∧ Below w.heap.size w w' := by
  have HB := Lib.hid (ba w (.cells (encCal c).toArray 58))
  have HC := Lib.hid (hc.below HB.out); clear hc
  have hbox := heap_alloc_new w (.cells (encCal c).toArray 58)
  have HV := Lib.hid hv
  have HD := Lib.hid hd
  obtain ⟨z1, z2, -⟩ := calB_zone hv
  have hd' : -1000000 ≤ d ∧ d ≤ 1000000 := by unfold dayR at hd; simpa using hd
  obtain ⟨d1, d2⟩ := hd'
  have m2 : ¬ 1439 < m := by omega
  unfold encCal at HC HB hbox
  have HX := Lib.hid hbox
  have k0 : (w.alloc (.cells #[iV c.zone, .slice c.wA c.week.length c.wc, .slice c.hA c.hol.length c.hc] 58)).cell? ⟨w.heap.size, 0, none⟩ = some (iV c.zone) := cell_of_row _ _ 0 _ _ _ hbox
  have k1 : (w.alloc (.cells #[iV c.zone, .slice c.wA c.week.length c.wc, .slice c.hA c.hol.length c.hc] 58)).cell? ⟨w.heap.size, 1, none⟩ = some (.slice c.wA c.week.length c.wc) := cell_of_row _ _ 1 _ _ _ hbox
  have k2 : (w.alloc (.cells #[iV c.zone, .slice c.wA c.week.length c.wc, .slice c.hA c.hol.length c.hc] 58)).cell? ⟨w.heap.size, 2, none⟩ = some (.slice c.hA c.hol.length c.hc) := cell_of_row _ _ 2 _ _ _ hbox
  clear hv hd hbox
  go_enter Tryz.func38, Tryz.ntmps38
  go_upto_region 1 with fail
  change Code.wp _ _ _ _ (w.alloc (.cells #[iV c.zone, .slice c.wA c.week.length c.wc, .slice c.hA c.hol.length c.hc] 58))
  generalize (w.alloc (.cells #[iV c.zone, .slice c.wA c.week.length c.wc, .slice c.hA c.hol.length c.hc] 58)) = W0 at *
  go_wp2_with fail
  refine (rvalid_any c _ HC.out).mono ?_
  rintro e w1 ⟨rfl, hb⟩
  rw [HV.out]
  have HB1 := Lib.hid (bt HB.out hb)
  have hx := (hb.block _ (block_lt HX.out)).trans HX.out
  clear hb k0 k1 k2 HX
  have k0 : w1.cell? ⟨w.heap.size, 0, none⟩ = some (iV c.zone) := cell_of_row _ _ 0 _ _ _ hx
  clear hx
  go_wp2_with fail
  refine (range02_any d _ HD.out).mono ?_
  rintro e w' ⟨rfl, rfl⟩
  go_wp2_with fail
  go_ret
  exact ⟨ret_int (by unfold timeOf; omega), HB1.out⟩
set_option maxHeartbeats 8000000 in
set_option maxRecDepth 100000 in
theorem cut17_any (n : Net) (k o : Nat) (fr till : Int) (w : World) (hn : NetIn w n) (hG : Good n) (hk : k < n.clss.length) (ho : o < n.offs.length) (h1 : 0 ≤ fr) (h2 : fr < till) (h3 : till ≤ 600) (h4 : till ≤ fr + 12) :
    Calls Tryz.prog 14 #[netV n, iV k, iV o, iV fr, iV till] w (HdP (cutsOf n k o fr till) w) := by
  have hb0 := ba w (netO n)
  have hx0 := heap_alloc_new w (netO n)
  have HNP : Hid (NetP (w.alloc (netO n)) w.heap.size n) := ⟨fun i v hv => (cell_of_row _ _ _ _ _ _ hx0).trans hv, hn.below hb0⟩
  have HB0 := Lib.hid hb0
  obtain ⟨ci, hc1, hc2, hc3⟩ := hG.calAt ho
  have HC3 := Lib.hid hc3
  have HCL := Lib.hid (hG.cls _ (List.mem_of_getElem? (clsAt_get hk)))
  have HCD := Lib.hid (cuts_days hG hk ho (show fr ≤ till by omega) h4)
  obtain ⟨hoo, ob, oo, hoA, hob, -, hoc⟩ := elem_at encOff_len HNP.out.net.offs (offAt_get ho) (by omega)
  obtain ⟨hcc9, cb, co, hcA, hcb, hc0, hcc⟩ := elem_at encCal_len HNP.out.net.cals hc2 (by omega)
  obtain ⟨hkk, lb, lo, hlA, hlb, -, hlc⟩ := elem_at encCls_len HNP.out.net.clss (clsAt_get hk) (by omega)
  have n0 : (w.alloc (netO n)).cell? ⟨w.heap.size, 0, none⟩ = some (.slice n.calA n.cals.length n.calC) := HNP.out.box 0 _ rfl
  have n3 : (w.alloc (netO n)).cell? ⟨w.heap.size, 3, none⟩ = some (.slice n.offA n.offs.length n.offC) := HNP.out.box 3 _ rfl
  have n5 : (w.alloc (netO n)).cell? ⟨w.heap.size, 5, none⟩ = some (.slice n.clsA n.clss.length n.clsC) := HNP.out.box 5 _ rfl
  have o2 : (w.alloc (netO n)).cell? ⟨ob, oo + o * 7 + 2, none⟩ = some (iV (offAt n o).cal) := hoc 2 _ rfl
  have c0 : (w.alloc (netO n)).cell? ⟨cb, co + ci * 3, none⟩ = some (iV (calAt n o).zone) := hc0 _ rfl
  have c1 : (w.alloc (netO n)).cell? ⟨cb, co + ci * 3 + 1, none⟩ = some (.slice (calAt n o).wA (calAt n o).week.length (calAt n o).wc) := hcc 1 _ rfl
  have c2 : (w.alloc (netO n)).cell? ⟨cb, co + ci * 3 + 2, none⟩ = some (.slice (calAt n o).hA (calAt n o).hol.length (calAt n o).hc) := hcc 2 _ rfl
  have l1 : (w.alloc (netO n)).cell? ⟨lb, lo + k * 3 + 1, none⟩ = some (iV (clsAt n k).cut) := hlc 1 _ rfl
  rw [hc1] at o2
  rw [hoA] at n3
  rw [hcA] at n0
  rw [hlA] at n5
  have HOO := Lib.hid (And.intro hoA (And.intro hcA hlA))
  have HL5 := Lib.hid (And.intro n5 l1)
  have HCI := Lib.hid (HNP.out.net.cal _ (List.mem_of_getElem? hc2))
  have j1 : (0 : Int) ≤ (o : Int) := by omega
  have j2 : (o : Int) < (n.offs.length : Int) := by omega
  have j3 : (0 : Int) ≤ (ci : Int) := by omega
  have j4 : (ci : Int) < (n.cals.length : Int) := by omega
  have j5 : (0 : Int) ≤ (k : Int) := by omega
  have j6 : (k : Int) < (n.clss.length : Int) := by omega
  clear hn hG hoc hc0 hcc hlc hob hcb hlb hc1 hc2 hc3 hoA hcA hlA hx0 hb0
  generalize calAt n o = C at *
  generalize (clsAt n k).cut = mm at *
  go_enter Tryz.func14, Tryz.ntmps14
  go_upto_region 1 with fail
  change Code.wp _ _ _ _ (w.alloc (netO n))
  generalize (w.alloc (netO n)) = W0 at *
  have HS0 : Hid (W0.drew.cell? ⟨w.heap.size, 0, none⟩ = some (.slice (some ⟨cb, co, none⟩) n.cals.length n.calC) ∧ W0.drew.cell? ⟨w.heap.size, 3, none⟩ = some (.slice (some ⟨ob, oo, none⟩) n.offs.length n.offC) ∧ W0.drew.cell? ⟨ob, oo + o * 7 + 2, none⟩ = some (iV ci) ∧ W0.drew.cell? ⟨cb, co + ci * 3, none⟩ = some (iV C.zone) ∧ W0.drew.cell? ⟨cb, co + ci * 3 + 1, none⟩ = some (.slice C.wA C.week.length C.wc) ∧ W0.drew.cell? ⟨cb, co + ci * 3 + 2, none⟩ = some (.slice C.hA C.hol.length C.hc)) := ⟨n0, n3, o2, c0, c1, c2⟩
  go_region_held3 (fun w' => w'.cell? ⟨w.heap.size, 0, none⟩ = some (.slice (some ⟨cb, co, none⟩) n.cals.length n.calC) ∧ w'.cell? ⟨w.heap.size, 3, none⟩ = some (.slice (some ⟨ob, oo, none⟩) n.offs.length n.offC) ∧ w'.cell? ⟨ob, oo + o * 7 + 2, none⟩ = some (iV ci) ∧ w'.cell? ⟨cb, co + ci * 3, none⟩ = some (iV C.zone) ∧ w'.cell? ⟨cb, co + ci * 3 + 1, none⟩ = some (.slice C.wA C.week.length C.wc) ∧ w'.cell? ⟨cb, co + ci * 3 + 2, none⟩ = some (.slice C.hA C.hol.length C.hc)) (first | (with_reducible exact HS0.out) | go_keep) (fail)
  have HX1 := Lib.hid (heap_alloc_new W0 (.cells #[iV C.zone, .slice C.wA C.week.length C.wc, .slice C.hA C.hol.length C.hc] 58))
  have HBA := Lib.hid (ba W0 (.cells #[iV C.zone, .slice C.wA C.week.length C.wc, .slice C.hA C.hol.length C.hc] 58))
  have HNP1 := Lib.hid (HNP.out.below HBA.out)
  have HCI1 := Lib.hid (HCI.out.below HBA.out)
  have HL6 : Hid ((W0.alloc (.cells #[iV C.zone, .slice C.wA C.week.length C.wc, .slice C.hA C.hol.length C.hc] 58)).cell? ⟨w.heap.size, 5, none⟩ = some (.slice (some ⟨lb, lo, none⟩) n.clss.length n.clsC) ∧ (W0.alloc (.cells #[iV C.zone, .slice C.wA C.week.length C.wc, .slice C.hA C.hol.length C.hc] 58)).cell? ⟨lb, lo + k * 3 + 1, none⟩ = some (iV mm)) := ⟨cell_keepW HBA.out HL5.out.1, cell_keepW HBA.out HL5.out.2⟩
  have HB1 := Lib.hid (bt HB0.out HBA.out)
  have HZS : Hid (W0.heap.size < (W0.alloc (.cells #[iV C.zone, .slice C.wA C.week.length C.wc, .slice C.hA C.hol.length C.hc] 58)).heap.size) := block_lt HX1.out
  clear n0 n3 n5 o2 c0 c1 c2 l1 HS0 HL5 HNP HCI HB0 HBA
  go_upto_region 2 with fail
  change Code.wp _ _ _ _ (World.drew (W0.alloc (.cells #[iV C.zone, .slice C.wA C.week.length C.wc, .slice C.hA C.hol.length C.hc] 58)))
  generalize (W0.alloc (.cells #[iV C.zone, .slice C.wA C.week.length C.wc, .slice C.hA C.hol.length C.hc] 58)) = W1 at *
  generalize W0.heap.size = Z at *
  have HI0 : Hid (HdI W1 W1.drew (.slice none 0 0) [] 0) := ⟨⟨rfl, .inl ⟨rfl, rfl⟩⟩, b_drew (Below.refl _ _), Nat.le_refl _⟩
  obtain ⟨i0, hi0, hz0, hz1, hz2⟩ := info_parts intWInf
  generalize (World.drew W1) = W2 at *
  have ht2 : till + 2 ≤ 602 := by omega
  go_wp2_with fail
  go_loopw [12, 13, 14, 15] (fun out i _ _ wr => ∃ q : Nat, q ≤ (till - fr + 5).toNat ∧ i = iV (fr - 2 + q) ∧ HdI W1 wr out (dcF C mm (1440 * fr) (1440 * till) q (fr - 2)) q) (fun _ i _ _ _ => (till + 4 - intOf i).toNat)
  case atStart => exact ⟨0, by omega, by simp, HI0.out⟩
  case round =>
  obtain ⟨q, hq, rfl, hi⟩ := hrel
  have HI := Lib.hid hi
  clear hi HI0
  have q0 : (0 : Int) ≤ (q : Int) := by omega
  by_cases hqt : q < (till - fr + 5).toNat
  case neg =>
    have q1 : ¬ fr - 2 + (q : Int) ≤ till + 2 := by omega
    have HE := Lib.hid (HI.out.eq (show _ = cutsOf n k o fr till by rw [← HCD.out, show (till - fr + 5).toNat = q by omega]) (Nat.le_refl _))
    go_wp2_with fail
    go_ret
    refine ⟨_, rfl, own_base HE.out.own HB1.out.size, HB1.out.trans (HE.out.bel.mono HB1.out.size)⟩
  have HQT := Lib.hid hqt
  have q1 : fr - 2 + (q : Int) ≤ till + 2 := by omega
  have hda : dayR (fr - 2 + (q : Int)) = true := by
    unfold dayR
    simp
    omega
  have HDA := Lib.hid hda
  have HST : Hid (∀ w', Below wr.heap.size wr w' → w'.cell? ⟨Z, 0, none⟩ = some (iV C.zone) ∧ w'.cell? ⟨Z, 1, none⟩ = some (.slice C.wA C.week.length C.wc) ∧ w'.cell? ⟨Z, 2, none⟩ = some (.slice C.hA C.hol.length C.hc) ∧ w'.cell? ⟨w.heap.size, 5, none⟩ = some (.slice (some ⟨lb, lo, none⟩) n.clss.length n.clsC) ∧ w'.cell? ⟨lb, lo + k * 3 + 1, none⟩ = some (iV mm)) := fun w' hb => by
    have hb1 := bt HI.out.bel hb
    have hz := (hb1.block _ (block_lt HX1.out)).trans HX1.out
    exact ⟨cell_of_row _ _ 0 _ _ _ hz, cell_of_row _ _ 1 _ _ _ hz, cell_of_row _ _ 2 _ _ _ hz, cell_keepW hb1 HL6.out.1, cell_keepW hb1 HL6.out.2⟩
  have HCW := Lib.hid (HCI1.out.below HI.out.bel)
  obtain ⟨z1, z2, -⟩ := calB_zone HC3.out
  have hmm := HCL.out
  have HTB : Hid (-10000000 ≤ timeOf C (fr - 2 + (q : Int)) mm ∧ timeOf C (fr - 2 + (q : Int)) mm ≤ 10000000) := by
    show _ ∧ _
    unfold timeOf
    omega
  have HT2 : Hid (∀ W, CalIn W C → Calls Tryz.prog 38 #[calV C, iV (fr - 2 + (q : Int)), iV mm] W fun e w' => e = .returned (iV (timeOf C (fr - 2 + (q : Int)) mm)) ∧ Below W.heap.size W w') := fun W h => time02_any C _ mm W h HC3.out HDA.out HCL.out.1 HCL.out.2.1
  have HW2 : Hid (∀ W, CalIn W C → Calls Tryz.prog 39 #[calV C, iV (fr - 2 + (q : Int))] W fun e w' => e = .returned (.bool (workB C (fr - 2 + (q : Int)))) ∧ Below W.heap.size W w') := fun W h => work02_any C _ W h HC3.out HDA.out
  have HDL := Lib.hid (dcF_last C mm (1440 * fr) (1440 * till) q (fr - 2))
  clear hda hmm
  generalize hTT : timeOf C (fr - 2 + (q : Int)) mm = t at *
  clear hTT
  generalize hWB : workB C (fr - 2 + (q : Int)) = wb at *
  clear hWB
  go_upto_region 6 with fail
  go_region_held3 (fun w' => w'.cell? ⟨Z, 0, none⟩ = some (iV C.zone) ∧ w'.cell? ⟨Z, 1, none⟩ = some (.slice C.wA C.week.length C.wc) ∧ w'.cell? ⟨Z, 2, none⟩ = some (.slice C.hA C.hol.length C.hc) ∧ w'.cell? ⟨w.heap.size, 5, none⟩ = some (.slice (some ⟨lb, lo, none⟩) n.clss.length n.clsC) ∧ w'.cell? ⟨lb, lo + k * 3 + 1, none⟩ = some (iV mm)) (first | (with_reducible exact HST.out _ (b_drew (Below.refl _ _))) | (with_reducible exact HST.out _ HBT.out)) (first
    | (go_at_call 38; refine (HT2.out _ (HCW.out.below (b_drew (Below.refl _ _)))).mono ?_; rintro e wt ⟨rfl, hb⟩; have HBT := Lib.hid (bdr hb); clear hb)
    | fail)
  obtain ⟨z0, z1, z2, -, -⟩ := HST.out _ HBT.out
  go_wp2_with fail
  refine (HW2.out _ (HCW.out.below HBT.out)).mono ?_
  rintro e w8 ⟨rfl, hb⟩
  have HB8 := Lib.hid (bt HBT.out hb)
  clear hb z0 z1 z2
  have HI8 : Hid (HdI W1 w8 _ (dcF C mm (1440 * fr) (1440 * till) q (fr - 2)) q) := ⟨own_below HI.out.own HB8.out, bt HI.out.bel HB8.out, HI.out.len⟩
  clear HI HST HCW HBT HB8 HT2 HW2
  have htb1 := HTB.out.1
  have htb2 := HTB.out.2
  have HNO : Hid (¬ (wb = true ∧ 1440 * fr ≤ t ∧ t < 1440 * till) → HdI W1 w8 _ (dcF C mm (1440 * fr) (1440 * till) (q + 1) (fr - 2)) (q + 1)) := fun h => HI8.out.eq (by rw [HDL.out, if_neg h, List.append_nil]) (by omega)
  cases wb
  case false =>
    go_wp2_with fail
    go_roundw
    case rel => exact ⟨q + 1, by have := HQT.out; omega, by simp; go_num, HNO.out (by simp)⟩
    case measure => have := HQT.out; simp [intOf]; omega
  by_cases hlo : 1440 * fr ≤ t
  case neg =>
    go_wp2_with fail
    go_roundw
    case rel => exact ⟨q + 1, by have := HQT.out; omega, by simp; go_num, HNO.out (fun h => by omega)⟩
    case measure => have := HQT.out; simp [intOf]; omega
  by_cases hhi : t < 1440 * till
  case neg =>
    go_wp2_with fail
    go_roundw
    case rel => exact ⟨q + 1, by have := HQT.out; omega, by simp; go_num, HNO.out (fun h => by omega)⟩
    case measure => have := HQT.out; simp [intOf]; omega
  have HYES : Hid (dcF C mm (1440 * fr) (1440 * till) (q + 1) (fr - 2) = dcF C mm (1440 * fr) (1440 * till) q (fr - 2) ++ [t]) := by
    show _ = _
    rw [HDL.out, if_pos ⟨rfl, hlo, hhi⟩]
  generalize dcF C mm (1440 * fr) (1440 * till) q (fr - 2) = l at *
  obtain ⟨ua, uc, rfl⟩ := own_slice HI8.out.own
  have HN := Lib.hid (heap_alloc_new w8 (.cells #[iV t] 3))
  have HBN := Lib.hid (ba w8 (.cells #[iV t] 3))
  have HSL := Lib.hid HI8.out.bel.size
  have hlen := HI8.out.len
  go_wp2_with (at_builtin; refine wpList_append_lies _ rfl _ _ _ rfl W1.heap.size 3 i0 _ 1 8 Tryz.underlying25 hi0 hz0 hz1 hz2 rfl (by omega) _ _ _ rfl (own_below HI8.out.own HBN.out) ⟨w8.heap.size, 0, none⟩ 1 1 [iV t] rfl rfl (fun j u hu => by rw [add_at, Nat.zero_add]; exact (cell_of_row _ _ j _ _ _ HN.out).trans (by simpa using hu)) (fun u hu => by simp at hu; subst hu; rfl) (by omega) (by unfold maxLen; omega) (by omega) (by have := HSL.out; simp; omega) (w8.heap.size + 1) (by simp) ?_; intro g cap w3 own1 hgrow hat hlt9)
  have HI3 := Lib.hid (HI8.out.app own1 hgrow)
  clear own1 hgrow hat hlt9
  go_wp2_with fail
  go_roundw
  case rel => exact ⟨q + 1, by have := HQT.out; omega, by simp; go_num, HI3.out.eq HYES.out.symm (Nat.le_refl _)⟩
  case measure => have := HQT.out; simp [intOf]; omega
end Go.Proofs.YtjpabeoflhkfkaaGreatDoor
