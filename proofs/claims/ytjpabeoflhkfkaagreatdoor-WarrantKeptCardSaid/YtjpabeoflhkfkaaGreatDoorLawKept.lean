/-
  The walk over the law WarrantKept.
-/
import Derived.Test.YtjpabeoflhkfkaaGreatDoorWarFin
import Derived.Test.YtjpabeoflhkfkaaGreatDoorPr
import Derived.Test.YtjpabeoflhkfkaaGreatDoorWarKept
import Derived.Test.YtjpabeoflhkfkaaGreatDoorWarDue2
import Derived.Test.YtjpabeoflhkfkaaGreatDoorWarOwn
import Derived.Test.YtjpabeoflhkfkaaGreatDoorLawWritten
namespace Go.Proofs.YtjpabeoflhkfkaaGreatDoor
open Go.RowKit
attribute [local go_sem] Oper.semAt_some

abbrev u8V (x : Int) : Value := .int .u8 x
theorem DsAt.of {n : Net} {ds : List DaC} (h : ds.length = n.clss.length) (hs : ∀ x ∈ ds, Sq n.offs.length x.rows) {k o d : Nat} (hk : k < n.clss.length) (ho : o < n.offs.length) (hd : d < n.offs.length) : ∃ y, DsAt ds k o d y := by
  have h1 : ds[k]? = some ds[k] := List.getElem?_eq_getElem (by omega)
  obtain ⟨a, b⟩ := hs _ (List.mem_of_getElem? h1)
  have h2 : ds[k].rows[o]? = some ds[k].rows[o] := List.getElem?_eq_getElem (by omega)
  have h3 := b _ (List.mem_of_getElem? h2)
  exact ⟨_, _, _, h1, h2, List.getElem?_eq_getElem (by omega)⟩
theorem mod_nat {a m : Nat} (hm : 0 < m) : ∃ k : Nat, (a : Int) % (m : Int) = (k : Int) ∧ k < m := ⟨a % m, by rw [← Int.natCast_emod], Nat.mod_lt _ hm⟩
set_option maxHeartbeats 8000000 in
set_option maxRecDepth 100000 in
theorem kept_any (n : Net) (fr till : Int) (A : Option Addr) (c : Nat) (nx : List NsC) (D : Option Addr) (dc : Nat) (ds : List DaC) (k8 o8 d8 a8 : Nat) (m : Int) (w : World) (hn : NetIn w n) (hT : Tab w A nx) (hx : nx.length ≤ maxLen) (hD : DTab0 w D ds) (hd : ds.length ≤ maxLen)
    (b1 : k8 ≤ 255) (b2 : o8 ≤ 255) (b3 : d8 ≤ 255) (b4 : a8 ≤ 65535) (hk : KW w) (hm : w.cell? ⟨1, 0, none⟩ = some (iV m)) :
    Calls Tryz.prog 5 #[netV n, planV fr till A nx.length c D ds.length dc, u8V k8, u8V o8, u8V d8, uV a8] w fun e w' => e = .returned (.bool true) ∧ Below w.heap.size w w' := by
  have HL0 := Lib.hid (Lw.new w fr till c dc hn hT hD hk hm)
  have HX := Lib.hid hx
  have HY := Lib.hid hd
  have hlc := hn.lens.2.2.2.2.2
  have hlo := hn.lens.2.2.2.1
  unfold maxLen at hlc hlo
  clear hn hT hx hD hd hk hm
  go_enter Tryz.func5, Tryz.ntmps5
  go_upto_region 1 with fail
  change Code.wp _ _ _ _ ((w.alloc (netO n)).alloc (planO fr till A nx.length c D ds.length dc))
  generalize ((w.alloc (netO n)).alloc (planO fr till A nx.length c D ds.length dc)) = W at *
  go_wp2_with fail
  refine (head8_any _ m HL0.out.kw HL0.out.max).mono ?_
  rintro e w1 ⟨rfl, hb⟩
  have HL := Lib.hid (HL0.out.below hb)
  clear hb HL0
  obtain ⟨⟨n0, n1, n2, n3, n4, n5⟩, p0, p1, p2, p3⟩ := HL.out.nb.cells
  go_wp2_with fail
  refine (fine8_any n fr till A c nx D dc ds _ HL.out.nb.nin HL.out.nb.tab HX.out HL.out.nb.dtab HY.out).mono ?_
  rintro e w2 ⟨⟨b, rfl, hbd⟩, hb⟩
  have HL2 := Lib.hid (HL.out.below hb)
  have HV0 := Lib.hid hbd
  clear hb hbd HL n0 n1 n2 n3 n4 n5 p0 p1 p2 p3
  cases b
  case false =>
    go_wp2_with fail
    go_ret
    exact ⟨rfl, HL2.out.nb.bel⟩
  have HV := Lib.hid (HV0.out rfl)
  clear HV0
  obtain ⟨⟨n0, n1, n2, n3, n4, n5⟩, p0, p1, p2, p3⟩ := HL2.out.nb.cells
  by_cases g1 : n.clss.length = 0
  case pos =>
    have g2 : ((n.clss.length : Int) == 0) = true := by simp [g1]
    clear g1
    go_wp2_with fail
    go_ret
    exact ⟨rfl, HL2.out.nb.bel⟩
  have g2 : ((n.clss.length : Int) == 0) = false := by rw [beq_eq_false_iff_ne]; omega
  by_cases g3 : n.offs.length = 0
  case pos =>
    have g4 : ((n.offs.length : Int) == 0) = true := by simp [g3]
    clear g1 g3
    go_wp2_with fail
    go_ret
    exact ⟨rfl, HL2.out.nb.bel⟩
  have g4 : ((n.offs.length : Int) == 0) = false := by rw [beq_eq_false_iff_ne]; omega
  have HPO : Hid (0 < n.clss.length ∧ 0 < n.offs.length) := ⟨by omega, by omega⟩
  clear g1 g3
  have hx6 : nx.length ≤ 1000000 := by have := HV.out.fine.next.1; have := HV.out.offs; omega
  have hd6 : ds.length ≤ 1000000 := by have := HV.out.dsl; omega
  have HTW := Lib.hid (HL2.out.nb.dtab.few (fun x hx => by have := HV.out.rows x hx; omega))
  go_wp2_with fail
  refine (write_any n fr till A c nx D dc ds _ HL2.out.nb.nin HL2.out.nb.tab hx6 HTW.out hd6 HL2.out.kw).mono ?_
  rintro e w3 ⟨hb, B, b, rfl, hr, -⟩
  have HL3 := Lib.hid (HL2.out.below hb)
  have HT3 := Lib.hid (HTW.out.below hb)
  have HBC := Lib.hid (ba w3 (.cells #[.slice B (writeTop n fr till nx ds).2.length b, iV (sealW (writeTop n fr till nx ds))] 43))
  clear hb hr HL2 HTW n0 n1 n2 n3 n4 n5 p0 p1 p2 p3
  generalize hwt : writeTop n fr till nx ds = wt at *
  have HWT := Lib.hid hwt; clear hwt
  obtain ⟨we, wn⟩ := wt
  by_cases hw : we = 0
  case neg =>
    have hw' : (we != 0) = true := by simpa using hw
    clear hw
    go_wp2_with fail
    go_ret
    exact ⟨rfl, bt HL3.out.nb.bel HBC.out⟩
  subst hw
  have HW : Hid ((writeTop n fr till nx ds).1 = 0) := by
    show _ = _
    rw [HWT.out]
  have HL4 := Lib.hid (HL3.out.below HBC.out)
  have HT4 := Lib.hid (HT3.out.below HBC.out)
  clear HL3 HT3 HBC
  go_upto_region 7 with fail
  change Code.wp _ _ _ _ (w3.alloc (.cells #[.slice B wn.length b, iV (sealW (0, wn))] 43))
  generalize (w3.alloc (.cells #[.slice B wn.length b, iV (sealW (0, wn))] 43)) = w4 at *
  obtain ⟨⟨n0, n1, n2, n3, n4, n5⟩, p0, p1, p2, p3⟩ := HL4.out.nb.cells
  obtain ⟨r1, r2, r3, r4⟩ := HV.out.fine.rng
  have r5 := HV.out.short
  have s1 : (0 : Int) < (n.clss.length : Int) := by have := HPO.out.1; omega
  have s2 : (0 : Int) < (n.offs.length : Int) := by have := HPO.out.2; omega
  have k1 : (0 : Int) ≤ (k8 : Int) := by omega
  have k2 : (k8 : Int) ≤ 255 := by omega
  have k3 : (0 : Int) ≤ (o8 : Int) := by omega
  have k4 : (o8 : Int) ≤ 255 := by omega
  have k5 : (0 : Int) ≤ (d8 : Int) := by omega
  have k6 : (d8 : Int) ≤ 255 := by omega
  have k7 : (0 : Int) ≤ (a8 : Int) := by omega
  have k9 : (a8 : Int) ≤ 65535 := by omega
  obtain ⟨k, ek, hkl⟩ := mod_nat (a := k8) HPO.out.1
  obtain ⟨o, eo, hol⟩ := mod_nat (a := o8) HPO.out.2
  obtain ⟨d, ed, hdl⟩ := mod_nat (a := d8) HPO.out.2
  go_upto_region 10 with fail
  rw [ek, eo, ed]
  clear ek eo ed k1 k2 k3 k4 k5 k6 b1 b2 b3 n0 n1 n2 n3 n4 n5 p2 p3
  have s3 : (1440 : Int) ≤ 1440 * (till - fr) := by omega
  have s4 : 1440 * (till - fr) ≤ (17280 : Int) := by omega
  have m0 : 0 ≤ (a8 : Int) % (1440 * (till - fr)) := Int.emod_nonneg _ (by omega)
  have m1 : (a8 : Int) % (1440 * (till - fr)) < 1440 * (till - fr) := Int.emod_lt_of_pos _ (by omega)
  go_quiet (fail)
  clear p0 p1
  have HL5 := Lib.hid (HL4.out.below (below_drewN (Below.refl _ _) nq))
  have HT5 := Lib.hid (HT4.out.below (below_drewN (Below.refl _ _) nq))
  clear HL4 HT4
  have HTT : Hid (1440 * fr ≤ 1440 * fr + (a8 : Int) % (1440 * (till - fr)) ∧ 1440 * fr + (a8 : Int) % (1440 * (till - fr)) < 1440 * till) := by
    show _ ∧ _
    omega
  clear s3 s4 m0 m1 k7 k9 b4
  generalize 1440 * fr + (a8 : Int) % (1440 * (till - fr)) = t at *
  go_upto_region 11 with fail
  change Code.wp _ _ _ _ (w4.drewN nq)
  generalize (w4.drewN nq) = w5 at *
  obtain ⟨⟨n0, n1, n2, n3, n4, n5⟩, p0, p1, p2, p3⟩ := HL5.out.nb.cells
  have HTI : Hid (0 ≤ t ∧ t ≤ 864000) := by
    have := HTT.out
    show _ ∧ _
    omega
  have HCT : Hid (cutoffTop n k o t = firstR (calAt n o) (clsAt n k).cut t) := by
    have := HTI.out
    exact if_pos ⟨inB_iff.2 ⟨by omega, by omega⟩, inB_iff.2 ⟨by omega, by omega⟩, tOk_iff.2 ⟨by omega, by omega⟩, HV.out.sound⟩
  go_wp2_with fail
  refine (cutofftop_any n k o t _ HL5.out.nb.nin HL5.out.kw).mono ?_
  rintro e w6 ⟨rfl, hb⟩
  rw [HCT.out]
  have HL6 := Lib.hid (HL5.out.below hb)
  have HT6 := Lib.hid (HT5.out.below hb)
  clear hb HL5 HT5 n0 n1 n2 n3 n4 n5 p0 p1 p2 p3
  obtain ⟨cut, f, hcf⟩ : ∃ cut f, firstR (calAt n o) (clsAt n k).cut t = (cut, f) := ⟨_, _, rfl⟩
  rw [hcf]
  dsimp only
  by_cases hf : f = 0
  case neg =>
    have hf' : (f != 0) = true := by simpa using hf
    clear hf
    go_wp2_with fail
    go_ret
    exact ⟨rfl, HL6.out.nb.bel⟩
  subst hf
  have HCF := Lib.hid hcf
  clear hcf
  obtain ⟨-, p0, p1, p2, p3⟩ := HL6.out.nb.cells
  by_cases hct : cut < 1440 * till
  case neg =>
    go_wp2_with fail
    go_ret
    exact ⟨rfl, HL6.out.nb.bel⟩
  have HCU := Lib.hid hct
  obtain ⟨y, hy⟩ := DsAt.of HV.out.fine.dsL (fun x hx => (HV.out.fine.days x hx).1) hkl hol hdl
  have HDS := Lib.hid hy
  have HYR : Hid (-1 ≤ y ∧ y ≤ 65518) := by
    obtain ⟨z, r, z1, z2, z3⟩ := hy
    exact (HV.out.fine.days z (List.mem_of_getElem? z1)).2 r (List.mem_of_getElem? z2) y (List.mem_of_getElem? z3)
  have HDA : Hid (DayAt w6 (.slice D ds.length dc) k o d y) := by
    obtain ⟨z, r, z1, z2, z3⟩ := hy
    have l1 := HV.out.dsl
    have l2 := HV.out.rows z (List.mem_of_getElem? z1)
    have l3 := (HV.out.fine.days z (List.mem_of_getElem? z1)).1.2 r (List.mem_of_getElem? z2)
    have l4 := HV.out.offs
    exact dayAt_of HT6.out (by omega) z1 z2 z3 (by omega) (by omega)
  clear hy
  obtain ⟨D1, D2, dl, dc', E1, E2, el, ec, F1, F2, fl, fc, hdv, l1, l2, l3, l4, l5, l6, g1, g2, g3, t1, t2, t3⟩ := HDA.out
  have HDV := Lib.hid hdv
  have HTC := Lib.hid (And.intro t1 (And.intro t2 t3))
  rw [hdv] at p3
  clear hdv
  have q1 : (0 : Int) ≤ (k : Int) := by omega
  have q2 : (k : Int) < (dl : Int) := by omega
  have q3 : (0 : Int) ≤ (o : Int) := by omega
  have q4 : (o : Int) < (el : Int) := by omega
  have q5 : (0 : Int) ≤ (d : Int) := by omega
  have q6 : (d : Int) < (fl : Int) := by omega
  by_cases hy0 : y < 0
  case pos =>
    go_wp2_with fail
    go_ret
    exact ⟨rfl, HL6.out.nb.bel⟩
  have HY0 : Hid (0 ≤ y) := by show _ ≤ _; omega
  go_upto_region 14 with fail
  clear p0 p1 p2 p3 t1 t2 t3 hy0 hct
  obtain ⟨⟨n0, n1, n2, n3, n4, n5⟩, p0, p1, p2, p3⟩ := HL6.out.nb.cells
  have hti := HTI.out
  obtain ⟨due, er, hder, hdue⟩ := due_any n D dc ds [] o d k t cut y w6 HL6.out.nb.nin HT6.out ⟨HV.out.fine.dsL, fun x hx => (HV.out.fine.days x hx).1⟩ HL6.out.kw HV.out.sound hol hdl hkl hti.1 (by omega) HCF.out HDS.out HY0.out
  have HDER := Lib.hid hder
  have HDUE := Lib.hid hdue
  clear hder hdue hti
  go_wp2_with fail
  refine HDUE.out.mono ?_
  rintro e w7 ⟨rfl, hb⟩
  have HL7 := Lib.hid (HL6.out.below hb)
  have HB7 := Lib.hid hb
  clear hb HDUE n0 n1 n2 n3 n4 n5 p0 p1 p2 p3
  obtain ⟨⟨n0, n1, n2, n3, n4, n5⟩, p0, p1, p2, p3⟩ := HL7.out.nb.cells
  have HWT2 : Hid (wayTop n nx o d t = wayR n nx d 19 o t) := by
    have := HTI.out
    exact if_pos ⟨inB_iff.2 ⟨by omega, by omega⟩, inB_iff.2 ⟨by omega, by omega⟩, tOk_iff.2 ⟨by omega, by omega⟩, HV.out.sound, HV.out.fine.next⟩
  go_wp2_with fail
  refine (way_any n A c nx o d t _ HL7.out.nb.nin HL7.out.nb.tab HX.out HL7.out.kw).mono ?_
  rintro e w8 ⟨hb, S, sc, rfl, hr⟩
  rw [HWT2.out] at hr ⊢
  have HL8 := Lib.hid (HL7.out.below hb)
  have HB8 := Lib.hid (bt HB7.out hb)
  have HR8 := Lib.hid hr
  clear hb hr HL7 HB7 n0 n1 n2 n3 n4 n5 p0 p1 p2 p3
  have HKW := Lib.hid (kept_way HV.out.sound HV.out.fine HV.out.offs HV.out.short hkl hol hdl HDS.out HY0.out HW.out HTT.out.1 HCF.out HCU.out)
  have HOK := Lib.hid (fun e => (wayR_ok (n := n) (nx := nx) (d := d) 19 o t e).1)
  obtain ⟨ve, vl, hv⟩ : ∃ e l, wayR n nx d 19 o t = (e, l) := ⟨_, _, rfl⟩
  rw [hv] at HKW HOK HR8 ⊢
  dsimp only at HKW HOK HR8 ⊢
  obtain ⟨⟨n0, n1, n2, n3, n4, n5⟩, p0, p1, p2, p3⟩ := HL8.out.nb.cells
  have t1 := cell_keepW HB8.out HTC.out.1
  have t2 := cell_keepW HB8.out HTC.out.2.1
  have t3 := cell_keepW HB8.out HTC.out.2.2
  rcases HDER.out with ⟨rfl, hZ⟩ | ⟨her, hy0⟩
  case inr =>
    have hy0' : 0 < y := hy0
    rw [HDV.out] at p3
    rcases her with rfl | rfl
    all_goals
      go_wp2_with fail
      go_ret
      exact ⟨rfl, HL8.out.nb.bel⟩
  have HZ := Lib.hid hZ
  clear hZ t1 t2 t3 HTC HDER
  rcases HKW.out with h20 | ⟨h0, hra, hdd⟩
  · subst h20
    go_wp2_with fail
    go_ret
    exact ⟨rfl, HL8.out.nb.bel⟩
  subst h0
  have hvl : vl ≠ [] := fun h => by
    have := HOK.out rfl
    rw [h] at this
    exact this
  obtain ⟨q, hq⟩ : ∃ q, vl.length = q + 1 := ⟨vl.length - 1, by have := List.length_pos_iff.2 hvl; omega⟩
  have hlast : vl[q]? = some (lastSt vl) := by
    unfold lastSt
    rw [List.getLastD_eq_getLast?, List.getLast?_eq_getElem?, hq, Nat.add_sub_cancel, List.getElem?_eq_getElem (by omega)]
    rfl
  have HLN : Hid (vl.length ≤ 20) := by
    have := wayR_len n nx d 19 o t
    rw [hv] at this
    exact this
  have hln := HLN.out
  have hz9 : ((vl.length : Int) == 0) = false := by rw [beq_eq_false_iff_ne]; omega
  have HLAST := Lib.hid hlast
  obtain ⟨-, sb, so, hS, -, -, hsc⟩ := elem_at encSt_len HR8.out hlast (by omega)
  have a1 : w8.cell? ⟨sb, so + q * 4 + 1, none⟩ = some (iV (lastSt vl).arrive) := hsc 1 _ rfl
  have HSE := Lib.hid hS
  generalize hA : (lastSt vl).arrive = a at *
  clear hA hsc hlast hvl
  have HDL : Hid (deliveryTop n k d a = deliveryR (calAt n d) (offAt n d) (clsAt n k) a) :=
    if_pos ⟨inB_iff.2 ⟨by omega, by omega⟩, inB_iff.2 ⟨by omega, by omega⟩, tOk_iff.2 hra, HV.out.sound⟩
  obtain ⟨dv, di, hde⟩ : ∃ x y, deliveryR (calAt n d) (offAt n d) (clsAt n k) a = (x, y) := ⟨_, _, rfl⟩
  rw [hde] at hdd HDL
  dsimp only at hdd
  have HDD := Lib.hid hdd
  clear hdd hde hra
  have HST : Hid (∀ w', Below w8.heap.size w8 w' → w'.cell? ⟨w.heap.size, 0, none⟩ = some (.slice n.calA n.cals.length n.calC) ∧ w'.cell? ⟨w.heap.size, 1, none⟩ = some (.slice n.namA n.names.length n.namC) ∧ w'.cell? ⟨w.heap.size, 2, none⟩ = some (.slice n.opA n.ops.length n.opC) ∧ w'.cell? ⟨w.heap.size, 3, none⟩ = some (.slice n.offA n.offs.length n.offC) ∧ w'.cell? ⟨w.heap.size, 4, none⟩ = some (.slice n.linA n.lins.length n.linC) ∧ w'.cell? ⟨w.heap.size, 5, none⟩ = some (.slice n.clsA n.clss.length n.clsC) ∧ w'.cell? ⟨sb, so + q * 4 + 1, none⟩ = some (iV a)) := fun w' hb =>
    ⟨cell_keepW hb n0, cell_keepW hb n1, cell_keepW hb n2, cell_keepW hb n3, cell_keepW hb n4, cell_keepW hb n5, cell_keepW hb a1⟩
  have HQ := Lib.hid hq
  clear hq
  generalize vl.length = L at *
  go_upto_region 22 with fail
  rw [hS]
  clear n0 n1 n2 n3 n4 n5 p0 p1 p2 p3 a1 hS
  have hq := HQ.out
  have j6 : IntKind.i64.wrap ((L : Int) - 1) = (L : Int) - 1 := IntWalk.i64_in _ (by omega)
  have j7 : ((L : Int) - 1).toNat = q := by omega
  have j8 : 0 ≤ (L : Int) - 1 := by omega
  have j9 : (L : Int) - 1 < (L : Int) := by omega
  have j3 : (1 : Int) ≤ (L : Int) := by omega
  clear hq
  go_region_held3 (fun w' => w'.cell? ⟨w.heap.size, 0, none⟩ = some (.slice n.calA n.cals.length n.calC) ∧ w'.cell? ⟨w.heap.size, 1, none⟩ = some (.slice n.namA n.names.length n.namC) ∧ w'.cell? ⟨w.heap.size, 2, none⟩ = some (.slice n.opA n.ops.length n.opC) ∧ w'.cell? ⟨w.heap.size, 3, none⟩ = some (.slice n.offA n.offs.length n.offC) ∧ w'.cell? ⟨w.heap.size, 4, none⟩ = some (.slice n.linA n.lins.length n.linC) ∧ w'.cell? ⟨w.heap.size, 5, none⟩ = some (.slice n.clsA n.clss.length n.clsC) ∧ w'.cell? ⟨sb, so + q * 4 + 1, none⟩ = some (iV a)) (first | (with_reducible exact HST.out _ (b_drew (Below.refl _ _))) | (with_reducible exact HST.out _ HB9.out)) (first
    | (go_at_call 20; refine (deliverytop_any n k d a _ (HL8.out.nb.nin.below (b_drew (Below.refl _ _))) (HL8.out.kw.below (b_drew (Below.refl _ _)))).mono ?_; rintro e w9 ⟨rfl, hb⟩; rw [HDL.out]; have HB9 := Lib.hid (bdr hb); clear hb)
    | fail)
  rcases HDD.out with h20 | ⟨h0, hle⟩
  · subst h20
    go_wp2_with fail
    go_ret
    exact ⟨rfl, bt HL8.out.nb.bel HB9.out⟩
  · subst h0
    obtain ⟨Z, hZ1, hZ2⟩ := HZ.out
    have hle' : dv ≤ due := by rw [hZ2]; exact hle Z hZ1
    clear hle hZ1 hZ2
    go_wp2_with fail
    go_ret
    exact ⟨rfl, bt HL8.out.nb.bel HB9.out⟩
end Go.Proofs.YtjpabeoflhkfkaaGreatDoor
