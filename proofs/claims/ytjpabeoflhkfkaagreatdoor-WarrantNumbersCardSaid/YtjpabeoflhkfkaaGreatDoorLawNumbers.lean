/-
  The walk over the law WarrantNumbers.
-/
import Derived.Test.YtjpabeoflhkfkaaGreatDoorLawWritten
import Derived.Test.YtjpabeoflhkfkaaGreatDoorWarCut17
import Derived.Test.YtjpabeoflhkfkaaGreatDoorWarGrow
import Derived.Test.YtjpabeoflhkfkaaGreatDoorWarWayF
namespace Go.Proofs.YtjpabeoflhkfkaaGreatDoor
open Go.RowKit
attribute [local go_sem] Oper.semAt_some

set_option maxHeartbeats 16000000 in
set_option maxRecDepth 100000 in
theorem lawnums_any (n : Net) (fr till : Int) (A : Option Addr) (c : Nat) (nx : List NsC) (D : Option Addr) (dc : Nat) (ds : List DaC) (m : Int) (w : World) (hn : NetIn w n) (hT : Tab w A nx) (hx : nx.length ≤ maxLen) (hD : DTab0 w D ds) (hd : ds.length ≤ maxLen)
    (hk : KW w) (hm : w.cell? ⟨1, 0, none⟩ = some (iV m)) :
    Calls Tryz.prog 4 #[netV n, planV fr till A nx.length c D ds.length dc] w fun e w' => e = .returned (.bool true) ∧ Below w.heap.size w w' := by
  have HL0 := Lib.hid (Lw.new w fr till c dc hn hT hD hk hm)
  have HX := Lib.hid hx
  have HY := Lib.hid hd
  clear hn hT hx hD hd hk hm
  go_enter Tryz.func4, Tryz.ntmps4
  go_upto_region 1 with fail
  change Code.wp _ _ _ _ ((w.alloc (netO n)).alloc (planO fr till A nx.length c D ds.length dc))
  generalize ((w.alloc (netO n)).alloc (planO fr till A nx.length c D ds.length dc)) = W at *
  go_wp2_with fail
  refine (head8_any _ m HL0.out.kw HL0.out.max).mono ?_
  rintro e w1 ⟨rfl, hb⟩
  have HL := Lib.hid (HL0.out.below hb)
  clear hb HL0
  obtain ⟨⟨n0, n1, n2, n3, n4, n5⟩, p0, p1, p2, p3⟩ := HL.out.nb.cells
  go_wp2_with fail
  refine (fine8_any n fr till A c nx D dc ds _ HL.out.nb.nin HL.out.nb.tab HX.out HL.out.nb.dtab HY.out).mono ?_
  rintro e w2 ⟨⟨b, rfl, hbd⟩, hb⟩
  have HL2 := Lib.hid (HL.out.below hb)
  have HV0 := Lib.hid hbd
  clear hb hbd HL n0 n1 n2 n3 n4 n5 p0 p1 p2 p3
  cases b
  case false =>
    go_wp2_with fail
    go_ret
    exact ⟨rfl, HL2.out.nb.bel⟩
  have HV := Lib.hid (HV0.out rfl)
  clear HV0
  obtain ⟨⟨n0, n1, n2, n3, n4, n5⟩, p0, p1, p2, p3⟩ := HL2.out.nb.cells
  have hx6 : nx.length ≤ 1000000 := by have := HV.out.fine.next.1; have := HV.out.offs; omega
  have hd6 : ds.length ≤ 1000000 := by have := HV.out.dsl; omega
  have HTW := Lib.hid (HL2.out.nb.dtab.few (fun x hx => by have := HV.out.rows x hx; omega))
  go_wp2_with fail
  refine (write_any n fr till A c nx D dc ds _ HL2.out.nb.nin HL2.out.nb.tab hx6 HTW.out hd6 HL2.out.kw).mono ?_
  rintro e w3 ⟨hb, B, b, rfl, hr, -⟩
  have HL3 := Lib.hid (HL2.out.below hb)
  have HT3 := Lib.hid (HTW.out.below hb)
  clear hb HL2 HTW n0 n1 n2 n3 n4 n5 p0 p1 p2 p3
  by_cases hw : (writeTop n fr till nx ds).1 = 0
  case neg =>
    have hwe := writeTop_err hw
    have HE : Hid (sealW (writeTop n fr till nx ds) = 0) := if_neg hw
    rw [HE.out, hwe]
    have hc := heap_alloc_new w3 (.cells #[.slice B ([] : List Int).length b, iV 0] 43)
    have HBC := Lib.hid (bt HL3.out.nb.bel (ba w3 (.cells #[.slice B ([] : List Int).length b, iV 0] 43)))
    have c0 : (w3.alloc (.cells #[.slice B ([] : List Int).length b, iV 0] 43)).cell? ⟨w3.heap.size, 0, none⟩ = some (.slice B 0 b) := cell_of_row _ _ 0 _ _ _ hc
    have c1 : (w3.alloc (.cells #[.slice B ([] : List Int).length b, iV 0] 43)).cell? ⟨w3.heap.size, 1, none⟩ = some (iV 0) := cell_of_row _ _ 1 _ _ _ hc
    have hw' : ((writeTop n fr till nx ds).1 != 0) = true := by simpa using hw
    clear hw hwe hr hc
    go_upto_region 5 with fail
    change Code.wp _ _ _ _ (w3.alloc (.cells #[.slice B ([] : List Int).length b, iV 0] 43))
    generalize (w3.alloc (.cells #[.slice B ([] : List Int).length b, iV 0] 43)) = w4 at *
    go_wp2_with fail
    go_ret
    exact ⟨rfl, HBC.out⟩
  obtain ⟨hw1, hw2⟩ := writeTop_nums hw
  have HW := Lib.hid hw
  have HW2 := Lib.hid hw2
  rw [hw1] at hr ⊢
  rw [hw]
  generalize sealW (writeTop n fr till nx ds) = sx at *
  clear hw hw1 hw2
  generalize hLL : headR n fr till nx ds ++ (tabP 0 ds).flatMap (numsP n nx fr till) = L at *
  have HLL := Lib.hid hLL
  clear hLL
  have HBA := Lib.hid (ba w3 (.cells #[.slice B L.length b, iV sx] 43))
  have HC5 := Lib.hid (heap_alloc_new w3 (.cells #[.slice B L.length b, iV sx] 43))
  have HL5 := Lib.hid (HL3.out.below HBA.out)
  have HT5 := Lib.hid (HT3.out.below HBA.out)
  have HR5 := Lib.hid (hr.below HBA.out)
  clear HL3 HT3 hr HBA
  go_upto_region 7 with fail
  change Code.wp _ _ _ _ (w3.alloc (.cells #[.slice B L.length b, iV sx] 43))
  generalize (w3.alloc (.cells #[.slice B L.length b, iV sx] 43)) = W5 at *
  generalize w3.heap.size = Z at *
  obtain ⟨-, p0, p1, p2, p3⟩ := HL5.out.nb.cells
  go_wp2_with fail
  refine (header_any n fr till A c nx D dc ds _ HL5.out.nb.tab HL5.out.nb.dtab HV.out.sound.1.good HV.out.fine).mono ?_
  rintro e w6 ⟨v6, rfl, hown, hb⟩
  have HN6 : Hid (NB W5 w6 v6 (headR n fr till nx ds)) := ⟨hown, hb⟩
  clear hown hb p0 p1 p2 p3
  have hcl : n.clss.length ≤ 4 := HV.out.sound.1.good.few.2.2.2
  have hof : n.offs.length ≤ 6 := HV.out.offs
  go_wp2_with fail
  go_loopw [8, 9, 10, 11, 12, 13, 14, 15, 16, 17, 18] (fun out i _ _ _ _ _ _ _ _ _ wr => ∃ (k : Nat) (done : List Pr), k ≤ n.clss.length ∧ i = iV k ∧ tabP 0 ds = done ++ tabP k (ds.drop k) ∧ NB W5 wr out (headR n fr till nx ds ++ done.flatMap (numsP n nx fr till))) (fun _ i _ _ _ _ _ _ _ _ _ _ => n.clss.length + 1 - (intOf i).toNat)
  case atStart => exact ⟨0, [], by omega, rfl, by simp, HN6.out.eq (by simp)⟩
  case round =>
  obtain ⟨k, done, hk, rfl, hdone, hi⟩ := hrel
  have HI := Lib.hid hi
  have HDN := Lib.hid hdone
  clear hi hdone HN6
  obtain ⟨⟨n0, n1, n2, n3, n4, n5⟩, p0, p1, p2, p3⟩ := (HL5.out.below HI.out.bel).nb.cells
  have k0 : (0 : Int) ≤ (k : Int) := by omega
  by_cases hkt : k < n.clss.length
  case neg =>
    have k1 : ¬ (k : Int) < (n.clss.length : Int) := by omega
    have HLE : Hid (headR n fr till nx ds ++ done.flatMap (numsP n nx fr till) = L) := by
      show _ = _
      have h := HDN.out
      rw [List.drop_eq_nil_of_le (by have := HV.out.fine.dsL; omega)] at h
      rw [← HLL.out, h]
      simp [tabP]
    have HI2 := Lib.hid (HI.out.eq HLE.out)
    have hz := (HI.out.bel.block _ (block_lt HC5.out)).trans HC5.out
    have c0 : wr.cell? ⟨Z, 0, none⟩ = some (.slice B L.length b) := cell_of_row _ _ 0 _ _ _ hz
    obtain ⟨E, ec, rfl⟩ := HI2.out.slice
    clear hz HI HDN n0 n1 n2 n3 n4 p0 p1 p2 p3
    go_wp2_with fail
    refine (ints_any L L B E b ec _ (HR5.out.below HI2.out.bel) (rd_own HI2.out.own) (by have := HW2.out; omega)).mono ?_
    rintro e w9 ⟨rfl, hb⟩
    have HB9 := Lib.hid (HL5.out.nb.bel.trans ((bt HI2.out.bel hb).mono HL5.out.nb.bel.size))
    clear hb
    go_wp2_with fail
    go_ret
    exact ⟨by simp, HB9.out⟩
  have HKT := Lib.hid hkt
  have k1 : (k : Int) < (n.clss.length : Int) := by omega
  obtain ⟨x, hx⟩ : ∃ x, ds[k]? = some x := ⟨_, List.getElem?_eq_getElem (by have := HV.out.fine.dsL; omega)⟩
  have HXE := Lib.hid hx
  have HXS := Lib.hid (HV.out.fine.days x (List.mem_of_getElem? hx)).1
  have HXV := Lib.hid (HV.out.fine.days x (List.mem_of_getElem? hx)).2
  have HDN2 : Hid (tabP 0 ds = done ++ (rowsP k 0 x.rows ++ tabP (k + 1) (ds.drop (k + 1)))) := by
    show _ = _
    rw [HDN.out, tabP_at hx]
  clear hx HDN
  go_upto_region 12 with fail
  clear n0 n1 n2 n3 n4 n5 p0 p1 p2 p3
  go_wp2_with fail
  go_loopw [8, 10, 11, 12, 13, 14, 15, 16, 17, 18] (fun out i _ _ _ _ _ _ _ _ wr => ∃ (o : Nat) (done : List Pr), o ≤ n.offs.length ∧ i = iV o ∧ tabP 0 ds = done ++ (rowsP k o (x.rows.drop o) ++ tabP (k + 1) (ds.drop (k + 1))) ∧ NB W5 wr out (headR n fr till nx ds ++ done.flatMap (numsP n nx fr till))) (fun _ i _ _ _ _ _ _ _ _ _ => n.offs.length + 1 - (intOf i).toNat)
  case atStart => exact ⟨0, done, by omega, rfl, by rw [List.drop_zero]; exact HDN2.out, HI.out⟩
  case round =>
  clear HI HDN2
  obtain ⟨o, done, ho, rfl, hdone, hi⟩ := hrel
  have HI := Lib.hid hi
  have HDN := Lib.hid hdone
  clear hi hdone
  obtain ⟨⟨n0, n1, n2, n3, n4, n5⟩, p0, p1, p2, p3⟩ := (HL5.out.below HI.out.bel).nb.cells
  have o0 : (0 : Int) ≤ (o : Int) := by omega
  by_cases hot : o < n.offs.length
  case neg =>
    have o1 : ¬ (o : Int) < (n.offs.length : Int) := by omega
    have HDN3 : Hid (tabP 0 ds = done ++ tabP (k + 1) (ds.drop (k + 1))) := by
      show _ = _
      rw [HDN.out, List.drop_eq_nil_of_le (by have := HXS.out.1; omega)]
      simp [rowsP]
    go_wp2_with fail
    go_roundw
    case rel => exact ⟨k + 1, done, by have := HKT.out; omega, by go_num, HDN3.out, HI.out⟩
    case measure => have := HKT.out; simp [intOf]; omega
  have HOT := Lib.hid hot
  have o1 : (o : Int) < (n.offs.length : Int) := by omega
  obtain ⟨r, hr⟩ : ∃ r, x.rows[o]? = some r := ⟨_, List.getElem?_eq_getElem (by have := HXS.out.1; omega)⟩
  have HRE := Lib.hid hr
  have HRL := Lib.hid (HXS.out.2 r (List.mem_of_getElem? hr))
  have HRV := Lib.hid (HXV.out r (List.mem_of_getElem? hr))
  have HDN2 : Hid (tabP 0 ds = done ++ (colsP k o 0 r.ns ++ (rowsP k (o + 1) (x.rows.drop (o + 1)) ++ tabP (k + 1) (ds.drop (k + 1))))) := by
    show _ = _
    rw [HDN.out, rowsP_at hr, List.append_assoc]
  have hrng := HV.out.fine.rng
  clear hr HDN
  go_wp2_with fail
  refine (cut17_any n k o fr till _ (HL5.out.below HI.out.bel).nb.nin HV.out.sound.1.good HKT.out HOT.out hrng.1 hrng.2.1 hrng.2.2.1 HV.out.short).mono ?_
  rintro e wc ⟨v7, rfl, hown, hb⟩
  have hown2 := hown
  obtain ⟨CA, cc, rfl, -, -, hcr⟩ := Rd.of_own hown2
  have HNE : Hid (∀ a, CA = some a → ∀ row, (∀ j, row = some j → j < wr.heap.size) → row ≠ some a.block) := fun a ha row hrow e => by
    have h1 := own_ge hown (show Value.ownBlock (.slice CA _ cc) = some a.block by rw [ha]; rfl)
    have h2 := hrow _ e
    omega
  have HCR := Lib.hid hcr
  have HIC := Lib.hid (HI.out.below hb)
  have HOB := Lib.hid (fun j e => (HI.out.own.lt j e).2)
  have HG0 := Lib.hid (NG.start wc u8)
  clear hown hown2 hcr hb HI n0 n1 n2 n3 n4 n5 p0 p1 p2 p3
  have hc17 : (cutsOf n k o fr till).length ≤ 17 := by
    rw [← cuts_days HV.out.sound.1.good HKT.out HOT.out (show fr ≤ till by omega) HV.out.short]
    exact Nat.le_trans (dcF_len _ _) (by have := HV.out.short; omega)
  go_upto_region 16 with fail
  generalize hRO : Value.ownBlock u8 = row0 at *
  clear hRO
  go_wp2_with fail
  go_loopw [8, 12, 13, 14, 15, 16, 17, 18] (fun out i _ _ _ _ _ _ wr => ∃ (d : Nat) (done : List Pr), d ≤ n.offs.length ∧ i = iV d ∧ tabP 0 ds = done ++ (colsP k o d (r.ns.drop d) ++ (rowsP k (o + 1) (x.rows.drop (o + 1)) ++ tabP (k + 1) (ds.drop (k + 1)))) ∧ NB W5 wr out (headR n fr till nx ds ++ done.flatMap (numsP n nx fr till)) ∧ NG wc row0 wr out) (fun _ i _ _ _ _ _ _ _ => n.offs.length + 1 - (intOf i).toNat)
  case atStart => exact ⟨0, done, by omega, rfl, by rw [List.drop_zero]; exact HDN2.out, HIC.out, HG0.out⟩
  case round =>
  clear HIC HG0 HDN2
  obtain ⟨d, done, hd, rfl, hdone, hi, hg⟩ := hrel
  have HI := Lib.hid hi
  have HG := Lib.hid hg
  have HDN := Lib.hid hdone
  clear hi hg hdone
  obtain ⟨⟨n0, n1, n2, n3, n4, n5⟩, p0, p1, p2, p3⟩ := (HL5.out.below HI.out.bel).nb.cells
  have d0 : (0 : Int) ≤ (d : Int) := by omega
  by_cases hdt : d < n.offs.length
  case neg =>
    have d1 : ¬ (d : Int) < (n.offs.length : Int) := by omega
    have HDN3 : Hid (tabP 0 ds = done ++ (rowsP k (o + 1) (x.rows.drop (o + 1)) ++ tabP (k + 1) (ds.drop (k + 1)))) := by
      show _ = _
      rw [HDN.out, List.drop_eq_nil_of_le (by have := HRL.out; omega)]
      simp [colsP]
    go_wp2_with fail
    go_roundw
    case rel => exact ⟨o + 1, done, by have := HOT.out; omega, by go_num, HDN3.out, HI.out⟩
    case measure => have := HOT.out; simp [intOf]; omega
  have HDT := Lib.hid hdt
  have d1 : (d : Int) < (n.offs.length : Int) := by omega
  obtain ⟨y, hy⟩ : ∃ y, r.ns[d]? = some y := ⟨_, List.getElem?_eq_getElem (by have := HRL.out; omega)⟩
  have HDS : Hid (DsAt ds k o d y) := ⟨x, r, HXE.out, HRE.out, hy⟩
  have hyv := HRV.out y (List.mem_of_getElem? hy)
  have HYV := Lib.hid hyv
  have HDN2 : Hid (tabP 0 ds = (done ++ [⟨k, o, d, y⟩]) ++ (colsP k o (d + 1) (r.ns.drop (d + 1)) ++ (rowsP k (o + 1) (x.rows.drop (o + 1)) ++ tabP (k + 1) (ds.drop (k + 1))))) := by
    show _ = _
    rw [HDN.out, colsP_at hy]
    simp
  have HDA : Hid (DayAt W5 (.slice D ds.length dc) k o d y) := dayAt_of HT5.out (by have := HV.out.dsl; omega) HXE.out HRE.out hy (by have := HXS.out.1; omega) (by have := HRL.out; omega)
  have HKW : Hid (0 ≤ y → ∀ t ∈ cutsOf n k o fr till, (wayR n nx d 19 o t).1 = 0) := fun h0 t ht => (kept_at HW.out HDS.out h0 t ht).1
  clear hy hyv HDN
  go_upto_region 19 with fail
  clear n0 n1 n2 n3 n4 n5 p0 p1 p2 p3
  go_wp2_with fail
  go_loopw [8, 13, 14, 15, 16, 17, 18] (fun out i _ _ _ _ _ wr => ∃ q : Nat, q ≤ (cutsOf n k o fr till).length ∧ i = iV q ∧ (y < 0 → q = 0) ∧ NB W5 wr out ((headR n fr till nx ds ++ done.flatMap (numsP n nx fr till)) ++ wayL n nx fr o d ((cutsOf n k o fr till).take q)) ∧ NG wc row0 wr out) (fun _ i _ _ _ _ _ _ => (cutsOf n k o fr till).length + 1 - (intOf i).toNat)
  case atStart => exact ⟨0, by omega, rfl, fun _ => rfl, HI.out.eq (by simp [wayL]), HG.out⟩
  case round =>
  clear HI HG
  obtain ⟨q, hq, rfl, hq0, hi, hg⟩ := hrel
  have HI := Lib.hid hi
  have HG := Lib.hid hg
  have HQ0 := Lib.hid hq0
  clear hi hg hq0
  obtain ⟨⟨n0, n1, n2, n3, n4, n5⟩, p0, p1, p2, p3⟩ := (HL5.out.below HI.out.bel).nb.cells
  obtain ⟨D1, D2, dl, dc', E1, E2, el, ec, F1, F2, fl, fc, hdv, l1, l2, l3, l4, l5, l6, g1, g2, g3, t1, t2, t3⟩ := HDA.out
  have t1' := cell_keepW HI.out.bel t1
  have t2' := cell_keepW HI.out.bel t2
  have t3' := cell_keepW HI.out.bel t3
  have HDV := Lib.hid hdv
  rw [hdv] at p3
  clear hdv t1 t2 t3 g1 g2 g3 l4 l5 l6
  have q0 : (0 : Int) ≤ (q : Int) := by omega
  have q1 : (k : Int) < (dl : Int) := by omega
  have q2 : (o : Int) < (el : Int) := by omega
  have q3 : (d : Int) < (fl : Int) := by omega
  by_cases hqt : q < (cutsOf n k o fr till).length
  case neg =>
    have q4 : ¬ (q : Int) < ((cutsOf n k o fr till).length : Int) := by omega
    have HEX : Hid (wayL n nx fr o d ((cutsOf n k o fr till).take q) = numsP n nx fr till ⟨k, o, d, y⟩) := by
      show _ = _
      unfold numsP
      by_cases hy1 : y = -1
      · rw [if_pos hy1, HQ0.out (by omega)]
        rfl
      · rw [if_neg hy1, List.take_of_length_le (by omega)]
    go_wp2_with fail
    go_roundw
    case rel => exact ⟨d + 1, _, by have := HDT.out; omega, by go_num, HDN2.out, HI.out.eq (nums_step _ HEX.out), HG.out⟩
    case measure => have := HDT.out; simp [intOf]; omega
  have HQT := Lib.hid hqt
  have q4 : (q : Int) < ((cutsOf n k o fr till).length : Int) := by omega
  by_cases hy0 : y < 0
  case pos =>
    have hy0' : ¬ (0 : Int) ≤ y := by omega
    have HEX : Hid (wayL n nx fr o d ((cutsOf n k o fr till).take q) = numsP n nx fr till ⟨k, o, d, y⟩) := by
      show _ = _
      unfold numsP
      have hy1 : y = -1 := by have := HYV.out.1; omega
      rw [if_pos hy1, HQ0.out hy0]
      rfl
    go_wp2_with fail
    go_roundw
    case rel => exact ⟨d + 1, _, by have := HDT.out; omega, by go_num, HDN2.out, HI.out.eq (nums_step _ HEX.out), HG.out⟩
    case measure => have := HDT.out; simp [intOf]; omega
  have hy0' : (0 : Int) ≤ y := by omega
  have HY0 := Lib.hid hy0'
  go_upto_region 21 with fail
  obtain ⟨t, ht⟩ : ∃ t, (cutsOf n k o fr till)[q]? = some t := ⟨_, List.getElem?_eq_getElem hqt⟩
  have HTE := Lib.hid ht
  have HCW := Lib.hid (HG.out.rd HCR.out (fun a ha => HNE.out a ha row0 HOB.out))
  obtain ⟨cb, co, hca, -, hcc⟩ := HCW.out.get (i := q) (by simpa using hqt)
  have e1 : wr.cell? ⟨cb, co + q, none⟩ = some (iV t) := hcc q (iV t) (by rw [List.getElem?_map, ht]; rfl)
  have HTB : Hid (1440 * fr ≤ t ∧ t < 1440 * till) := by
    have hc := HV.out.sound.1.good.cls _ (List.mem_of_getElem? (clsAt_get HKT.out))
    exact cuts_mem _ hc.1 hc.2.1 (List.mem_of_getElem? ht)
  have HVE := Lib.hid (HKW.out HY0.out t (List.mem_of_getElem? ht))
  have HWT : Hid (wayTop n nx o d t = wayR n nx d 19 o t) := by
    have := HTB.out
    have := HV.out.fine.rng
    have := HOT.out
    have := HDT.out
    exact if_pos ⟨inB_iff.2 ⟨by omega, by omega⟩, inB_iff.2 ⟨by omega, by omega⟩, tOk_iff.2 ⟨by omega, by omega⟩, HV.out.sound, HV.out.fine.next⟩
  have HCE := Lib.hid hca
  rw [hca]
  have HST : Hid (∀ w', Below wr.heap.size wr w' → w'.cell? ⟨w.heap.size, 0, none⟩ = some (.slice n.calA n.cals.length n.calC) ∧ w'.cell? ⟨w.heap.size, 1, none⟩ = some (.slice n.namA n.names.length n.namC) ∧ w'.cell? ⟨w.heap.size, 2, none⟩ = some (.slice n.opA n.ops.length n.opC) ∧ w'.cell? ⟨w.heap.size, 3, none⟩ = some (.slice n.offA n.offs.length n.offC) ∧ w'.cell? ⟨w.heap.size, 4, none⟩ = some (.slice n.linA n.lins.length n.linC) ∧ w'.cell? ⟨w.heap.size, 5, none⟩ = some (.slice n.clsA n.clss.length n.clsC) ∧ w'.cell? ⟨w.heap.size + 1, 2, none⟩ = some (.slice A nx.length c) ∧ w'.cell? ⟨cb, co + q, none⟩ = some (iV t)) := fun w' hb =>
    ⟨cell_keepW hb n0, cell_keepW hb n1, cell_keepW hb n2, cell_keepW hb n3, cell_keepW hb n4, cell_keepW hb n5, cell_keepW hb p2, cell_keepW hb e1⟩
  clear hca hcc ht n0 n1 n2 n3 n4 n5 p0 p1 p2 p3 e1 t1' t2' t3' hy0 hy0'
  have HLW := Lib.hid (HL5.out.below HI.out.bel)
  go_region_held3 (fun w' => w'.cell? ⟨w.heap.size, 0, none⟩ = some (.slice n.calA n.cals.length n.calC) ∧ w'.cell? ⟨w.heap.size, 1, none⟩ = some (.slice n.namA n.names.length n.namC) ∧ w'.cell? ⟨w.heap.size, 2, none⟩ = some (.slice n.opA n.ops.length n.opC) ∧ w'.cell? ⟨w.heap.size, 3, none⟩ = some (.slice n.offA n.offs.length n.offC) ∧ w'.cell? ⟨w.heap.size, 4, none⟩ = some (.slice n.linA n.lins.length n.linC) ∧ w'.cell? ⟨w.heap.size, 5, none⟩ = some (.slice n.clsA n.clss.length n.clsC) ∧ w'.cell? ⟨w.heap.size + 1, 2, none⟩ = some (.slice A nx.length c) ∧ w'.cell? ⟨cb, co + q, none⟩ = some (iV t)) (first | (with_reducible exact HST.out _ (b_drew (Below.refl _ _))) | (with_reducible exact HST.out _ HBV.out)) (first
    | (go_at_call 15; refine (wayf_any n A c nx o d t _ (HLW.out.nb.nin.below (b_drew (Below.refl _ _))) (HLW.out.nb.tab.below (b_drew (Below.refl _ _))) HX.out (HLW.out.kw.below (b_drew (Below.refl _ _)))).mono ?_; rintro e wv ⟨hb, S, sc, rfl, hrv, hfr⟩; rw [HWT.out] at hrv ⊢; have HBV := Lib.hid (bdr hb); clear hb)
    | fail)
  have HIV := Lib.hid (HI.out.below HBV.out)
  have HGV := Lib.hid (HG.out.below HBV.out)
  have HOV := Lib.hid (fun j e => (HI.out.own.lt j e).2)
  have HG1 := Lib.hid (NG.start wv u8)
  have HRV2 := Lib.hid hrv
  have HFR : Hid (∀ a, S = some a → Value.ownBlock u8 ≠ some a.block) := fun a ha e => by
    have h1 := hfr a ha
    have h2 := HOV.out _ e
    have h3 : wr.drew.heap.size = wr.heap.size := rfl
    omega
  clear hrv hfr HST HLW HI HG HCW HOV
  have HWK := Lib.hid ((wayR_ok (n := n) (nx := nx) (d := d) 19 o t HVE.out).1)
  have HWL := Lib.hid (wayR_len n nx d 19 o t)
  have HPL := Lib.hid (fun jj => part_le (all := tabP 0 ds) (j := jj) (H := headR n fr till nx ds) (done := done) (rest := colsP k o (d + 1) (r.ns.drop (d + 1)) ++ (rowsP k (o + 1) (x.rows.drop (o + 1)) ++ tabP (k + 1) (ds.drop (k + 1)))) (p := ⟨k, o, d, y⟩) (n := n) (nx := nx) (fr := fr) (till := till) (by rw [HDN2.out, List.append_assoc]; rfl) (show y ≠ -1 by have := HY0.out; omega) HTE.out (by rw [HLL.out]; exact HW2.out))
  have HWN := Lib.hid (wayL_take (n := n) (nx := nx) (fr := fr) (o := o) (d := d) HTE.out)
  rw [HVE.out]
  generalize hvv : (wayR n nx d 19 o t).2 = vl at *
  have HVV := Lib.hid hvv
  clear hvv
  generalize hrw : Value.ownBlock u8 = row1 at *
  have HRW := Lib.hid hrw
  clear hrw
  dsimp only at HPL
  generalize hl4 : (headR n fr till nx ds ++ done.flatMap (numsP n nx fr till)) ++ wayL n nx fr o d ((cutsOf n k o fr till).take q) = l4 at *
  have HL4 := Lib.hid hl4
  clear hl4
  go_upto_region 25 with fail
  go_wp2_with fail
  go_loopw [8, 16, 17, 18] (fun out i _ _ wr => ∃ j : Nat, j ≤ vl.length - 1 ∧ i = iV j ∧ NB W5 wr out (l4 ++ (daysW n fr vl).take j) ∧ NG wv row1 wr out) (fun _ i _ _ _ => vl.length + 1 - (intOf i).toNat)
  case atStart => exact ⟨0, by omega, rfl, HIV.out.eq (by simp), HG1.out⟩
  case round =>
  clear HIV HG1
  obtain ⟨j, hj, rfl, hi, hg⟩ := hrel
  have HI := Lib.hid hi
  have HG := Lib.hid hg
  clear hi hg
  have j0 : (0 : Int) ≤ (j : Int) := by omega
  have hwl := HWL.out
  by_cases hjt : j + 1 < vl.length
  case neg =>
    have j1 : ¬ (j : Int) + 1 < (vl.length : Int) := by omega
    have HE : Hid (l4 ++ (daysW n fr vl).take j = l4 ++ daysW n fr vl) := by
      show _ = _
      rw [List.take_of_length_le (by rw [daysW_len]; omega)]
    have HW4 : Hid (l4 ++ (daysW n fr vl).take j = l4 ++ daysW n fr vl) := HE.out
    have HIE := Lib.hid (HI.out.eq HE.out)
    go_wp2_with fail
    rw [← HCE.out]
    go_roundw
    case rel => exact ⟨q + 1, by have := HQT.out; omega, by go_num, fun h => by have := HY0.out; omega, HIE.out.eq (by rw [HWN.out, ← HL4.out, List.append_assoc]), HGV.out.step' HRW.out HG.out⟩
    case measure => have := HQT.out; simp [intOf]; omega
  have HJT := Lib.hid hjt
  have j1 : (j : Int) + 1 < (vl.length : Int) := by omega
  obtain ⟨s, hs⟩ : ∃ s, vl[j]? = some s := ⟨_, List.getElem?_eq_getElem (by omega)⟩
  obtain ⟨hday, hdl⟩ := daysW_at (n := n) (fr := fr) hs hjt
  obtain ⟨⟨b1, b2⟩, f, hf1, hf2⟩ := wayok_in HV.out.sound.1.good HV.out.fine.next HDT.out vl o t HOT.out HWK.out s hdl
  rw [hf1, Int.toNat_natCast] at hday
  have HDAY := Lib.hid hday
  obtain ⟨-, sb, so, hsA, -, hs0, hsc⟩ := elem_at encSt_len (HG.out.rd HRV2.out HFR.out) hs (by omega)
  have a0 : wr.cell? ⟨sb, so + j * 4, none⟩ = some (iV f) := (hs0 _ rfl).trans (by rw [hf1])
  have a2 : wr.cell? ⟨sb, so + j * 4 + 2, none⟩ = some (iV s.depart) := hsc 2 _ rfl
  have HLJ := Lib.hid (HL5.out.below HI.out.bel)
  obtain ⟨⟨n0, n1, n2, n3, n4, n5⟩, p0, p1, p2, p3⟩ := HLJ.out.nb.cells
  obtain ⟨ci, hc1, hc2, hc3⟩ := HV.out.sound.1.good.calAt hf2
  obtain ⟨-, ob, oo, hoA, -, -, hoc⟩ := elem_at encOff_len HLJ.out.nb.nin.offs (offAt_get hf2) (by omega)
  obtain ⟨hcl9, kb, ko, hkA, -, hk0, hkc⟩ := elem_at encCal_len HLJ.out.nb.nin.cals hc2 (by omega)
  have o2 : wr.cell? ⟨ob, oo + f * 7 + 2, none⟩ = some (iV ci) := (hoc 2 _ rfl).trans (by rw [hc1])
  have HCI := Lib.hid (HLJ.out.nb.nin.cal _ (List.mem_of_getElem? hc2))
  generalize calAt n f = C at *
  have c0 : wr.cell? ⟨kb, ko + ci * 3, none⟩ = some (iV C.zone) := hk0 _ rfl
  have c1 : wr.cell? ⟨kb, ko + ci * 3 + 1, none⟩ = some (.slice C.wA C.week.length C.wc) := hkc 1 _ rfl
  have c2 : wr.cell? ⟨kb, ko + ci * 3 + 2, none⟩ = some (.slice C.hA C.hol.length C.hc) := hkc 2 _ rfl
  have HC3 := Lib.hid hc3
  have HSA := Lib.hid hsA
  rw [hoA] at n3
  rw [hkA] at n0
  have f0 : ¬ (f : Int) < 0 := by omega
  have f0' : (0 : Int) ≤ (f : Int) := by omega
  have f1 : (f : Int) < (n.offs.length : Int) := by omega
  have f2 : ¬ (n.offs.length : Int) ≤ (f : Int) := by omega
  have f3 : (0 : Int) ≤ (ci : Int) := by omega
  have f4 : (ci : Int) < (n.cals.length : Int) := by omega
  have f5 : (j : Int) < (vl.length : Int) := by omega
  have HST : Hid (∀ w', Below wr.heap.size wr w' → w'.cell? ⟨w.heap.size, 0, none⟩ = some (.slice (some ⟨kb, ko, none⟩) n.cals.length n.calC) ∧ w'.cell? ⟨w.heap.size, 3, none⟩ = some (.slice (some ⟨ob, oo, none⟩) n.offs.length n.offC) ∧ w'.cell? ⟨sb, so + j * 4, none⟩ = some (iV f) ∧ w'.cell? ⟨sb, so + j * 4 + 2, none⟩ = some (iV s.depart) ∧ w'.cell? ⟨ob, oo + f * 7 + 2, none⟩ = some (iV ci) ∧ w'.cell? ⟨kb, ko + ci * 3, none⟩ = some (iV C.zone) ∧ w'.cell? ⟨kb, ko + ci * 3 + 1, none⟩ = some (.slice C.wA C.week.length C.wc) ∧ w'.cell? ⟨kb, ko + ci * 3 + 2, none⟩ = some (.slice C.hA C.hol.length C.hc)) := fun w' hb =>
    ⟨cell_keepW hb n0, cell_keepW hb n3, cell_keepW hb a0, cell_keepW hb a2, cell_keepW hb o2, cell_keepW hb c0, cell_keepW hb c1, cell_keepW hb c2⟩
  have HBB := Lib.hid (And.intro b1 b2)
  clear hs hday hdl hf1 hs0 hsc hoc hk0 hkc hc1 hc2 hc3 hoA hkA n1 n2 n4 n5 p1 p2 p3 o2 c0 c1 c2 hcl9 b1 b2 hjt
  go_upto_region 27 with fail
  rw [hsA]
  clear hsA
  go_quiet (fail)
  have HB27 : Hid (Below wr.heap.size wr (wr.drewN nq)) := below_drewN (Below.refl _ _) nq
  go_upto_region 29 with fail
  clear n0 n3 a0 a2
  go_region_held3 (fun w' => w'.cell? ⟨w.heap.size, 0, none⟩ = some (.slice (some ⟨kb, ko, none⟩) n.cals.length n.calC) ∧ w'.cell? ⟨w.heap.size, 3, none⟩ = some (.slice (some ⟨ob, oo, none⟩) n.offs.length n.offC) ∧ w'.cell? ⟨sb, so + j * 4, none⟩ = some (iV f) ∧ w'.cell? ⟨sb, so + j * 4 + 2, none⟩ = some (iV s.depart) ∧ w'.cell? ⟨ob, oo + f * 7 + 2, none⟩ = some (iV ci) ∧ w'.cell? ⟨kb, ko + ci * 3, none⟩ = some (iV C.zone) ∧ w'.cell? ⟨kb, ko + ci * 3 + 1, none⟩ = some (.slice C.wA C.week.length C.wc) ∧ w'.cell? ⟨kb, ko + ci * 3 + 2, none⟩ = some (.slice C.hA C.hol.length C.hc)) (first | (with_reducible exact HST.out _ (b_drew HB27.out)) | (with_reducible exact HST.out _ HBL.out)) (first
    | (go_at_call 16; refine (local_any C s.depart _ (HCI.out.below (b_drew HB27.out)) HC3.out (by have := HBB.out; omega) (by have := HBB.out; omega)).mono ?_; rintro e w9 ⟨rfl, hb⟩; have HBL := Lib.hid (bt (b_drew HB27.out) hb); clear hb)
    | fail)
  have HIL := Lib.hid (HI.out.below HBL.out)
  have HGL := Lib.hid (HG.out.below HBL.out)
  have hpt := cell_keepW HBL.out p0
  have HDB : Hid (-2000 ≤ dayOf C s.depart ∧ dayOf C s.depart ≤ 2000) := by
    have h1 := HBB.out
    obtain ⟨z1, z2, -⟩ := calB_zone HC3.out
    show _ ∧ _
    unfold dayOf
    omega
  have HLN : Hid ((l4 ++ (daysW n fr vl).take j).length ≤ 40000) := HPL.out j
  clear HI HG HST HB27 HBL p0 f0 f0' f1 f2 f3 f4 f5
  generalize dayOf C s.depart = dy at *
  generalize hL9 : l4 ++ (daysW n fr vl).take j = l9 at *
  have HL9 := Lib.hid hL9
  clear hL9
  obtain ⟨ua, uc, hu8⟩ := HIL.out.slice
  have HIS : Hid (NB W5 w9 (.slice ua l9.length uc) l9) := by rw [← hu8]; exact HIL.out
  have HGS : Hid (NG wv row1 w9 (.slice ua l9.length uc)) := by rw [← hu8]; exact HGL.out
  have HAP : Hid (∀ w3 g cap y, w3.ownsRow W5.heap.size 3 1 (.slice (some ⟨g, 0, none⟩) (l9.length + 1) cap) (l9.length + 1) (l9.map iV ++ [iV y]) → (w9.alloc (.cells #[iV y] 3)).grownBy w3 (Value.slice ua l9.length uc).ownBlock → ((Value.slice ua l9.length uc).ownBlock = some g ∨ g = w9.heap.size + 1) → NB W5 w3 (.slice (some ⟨g, 0, none⟩) (l9.length + 1) cap) (l9 ++ [y]) ∧ NG wv row1 w3 (.slice (some ⟨g, 0, none⟩) (l9.length + 1) cap)) :=
    fun w3 g cap y h1 h2 h3 => ⟨HIS.out.app h1 h2, HGS.out.app h2 h3⟩
  obtain ⟨i0, hi0, hz0, hz1, hz2⟩ := info_parts intWInf
  have HNN := Lib.hid (heap_alloc_new w9 (.cells #[iV (dy - fr + 2)] 3))
  have HBN := Lib.hid (ba w9 (.cells #[iV (dy - fr + 2)] 3))
  have HSL := Lib.hid HIS.out.bel.size
  have hlen := HLN.out
  have hdy := HDB.out
  have hdy1 := hdy.1
  have hdy2 := hdy.2
  have HFRR := Lib.hid HV.out.fine.rng
  have hfr0 := HFRR.out.1
  have hfr1 : fr ≤ 600 := by have := HFRR.out; omega
  clear hdy HIL HGL
  rw [hu8]
  clear hu8
  go_wp2_with (at_builtin; refine wpList_append_lies _ rfl _ _ _ rfl W5.heap.size 3 i0 _ 1 8 Tryz.underlying25 hi0 hz0 hz1 hz2 rfl (by omega) _ _ _ rfl (own_below HIS.out.own HBN.out) ⟨w9.heap.size, 0, none⟩ 1 1 [iV (dy - fr + 2)] rfl rfl (fun j u hu => by rw [add_at, Nat.zero_add]; exact (cell_of_row _ _ j _ _ _ HNN.out).trans (by simpa using hu)) (fun u hu => by simp at hu; subst hu; rfl) (by omega) (by unfold maxLen; omega) (by omega) (by have := HSL.out; simp; omega) (w9.heap.size + 1) (by simp) ?_; intro g cap w3 own1 hgrow hat hlt9)
  have HA3 := Lib.hid (HAP.out w3 g cap (dy - fr + 2) own1 hgrow hat)
  clear own1 hgrow hat hlt9
  go_wp2_with fail
  rw [← HSA.out]
  go_roundw
  case rel => exact ⟨j + 1, by have := HJT.out; omega, by go_num, HA3.out.1.eq (by rw [take_one HDAY.out, ← HL9.out, List.append_assoc, show dy - fr + 2 = dy + (2 - fr) by omega]), HA3.out.2⟩
  case measure => have := HJT.out; simp [intOf]; omega
end Go.Proofs.YtjpabeoflhkfkaaGreatDoor
