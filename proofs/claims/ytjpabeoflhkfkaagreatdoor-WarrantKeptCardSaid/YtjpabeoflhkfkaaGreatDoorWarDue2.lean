/-
  The walk over promise.Due, where the day that is promised does not exist. (Printed by gen_due2.py.)
-/
import Derived.Test.YtjpabeoflhkfkaaGreatDoorPr
namespace Go.Proofs.YtjpabeoflhkfkaaGreatDoor
open Go.RowKit

/-- Where a region may panic: what a post says of a panic, for all acts that have some slots as they are. -/
def PanQ (J : Act → Prop) (Q : Exit → Act → World → Prop) : Exit → Act → World → Prop
  | .panic c, a, w => J a ∧ ∀ a', J a' → Q (.panic c) a' w
  | e, a, w => Q e a w
theorem PanQ.imp {J : Act → Prop} {Q : Exit → Act → World → Prop} : ∀ (e : Exit) (a : Act) (w : World), PanQ J Q e a w → Q e a w := fun e a w h => by
  cases e <;> first | exact h | exact h.2 a h.1
theorem wp_region_pan {P : Program} {id : Nat} {ops : Array Oper} {b : Bool} {Q : Exit → Act → World → Prop} {a : Act} {w : World} (J : Act → Prop) (h : (Code.region id ops b).wp P (PanQ J Q) a w) : (Code.region id ops b).wp P Q a w :=
  Code.wp_mono PanQ.imp h
theorem PanQ.take {J : Act → Prop} {Q : Exit → Act → World → Prop} {d : Option Nat} {v : Value} (hJ : ∀ a, J (a.put d v) → J a) : ∀ c a w, PanQ J Q (.panic c) (a.put d v) w → PanQ J Q (.panic c) a w := fun _ a _ h => ⟨hJ a h.1, h.2⟩
def HeldA (p q : Value) (D : List Deferred) (a : Act) : Prop := a.tmps.getD 6 undef = p ∧ a.tmps.getD 7 undef = q ∧ a.defers = D
theorem held_put {p q : Value} {D : List Deferred} {d : Nat} {v : Value} (h6 : d ≠ 6) (h7 : d ≠ 7) : ∀ a, HeldA p q D (a.put (some d) v) → HeldA p q D a := fun a h => by
  unfold HeldA Act.put at *
  simpa [Array.getElem?_setIfInBounds_ne, h6, h7] using h
set_option maxHeartbeats 1000000 in
set_option maxRecDepth 100000 in
theorem due_pan (q r : Nat) (s y : Value) (x : Int) (older : List PanicEntry) (w : World) (hq : w.cell? ⟨q, 0, none⟩ = some s) (hqf : w.frozen? ⟨q, 0, none⟩ = false)
    (hr : w.cell? ⟨r, 0, none⟩ = some y) (hrf : w.frozen? ⟨r, 0, none⟩ = false) (hqr : r ≠ q) :
    CallsD Tryz.prog 52 #[.pointer (some ⟨q, 0, none⟩), .pointer (some ⟨r, 0, none⟩)] (.panicking ({ v := .iface 44 (iV x), recovered := false } :: older)) w fun e u' w' =>
      e = .returned (.tuple #[]) ∧ u' = .panicking ({ v := .iface 44 (iV x), recovered := true } :: older) ∧ w' = (w.setCell ⟨q, 0, none⟩ (iV 0)).setCell ⟨r, 0, none⟩ (iV x) := by
  have hc : (w.setCell ⟨q, 0, none⟩ (iV 0)).cell? ⟨r, 0, none⟩ = some y := by
    have hh := Below.heap_setCell w ⟨q, 0, none⟩ (iV 0) r hqr
    simpa [World.cell?, hh] using hr
  have hf : (w.setCell ⟨q, 0, none⟩ (iV 0)).frozen? ⟨r, 0, none⟩ = false := by rw [World.frozen?_setCell]; exact hrf
  refine callsD_of_wpS Tryz.func52 rfl fun c₀ cs hu => ?_
  apply wpS_seq
  apply wpS_region
  simp [wpOpsS, go_sem, recoverD, hu, Tryz.ntmps52, Exit.thenS]
  refine wpS_of_wp ?_
  go_wp2_with fail
  refine (code_any x _).mono ?_
  rintro e w1 ⟨rfl, rfl⟩
  go_wp2_with fail
  simp [bodyPostS, results, Tryz.results52]
set_option maxHeartbeats 8000000 in
set_option maxRecDepth 100000 in
theorem due_no (n : Net) (D : Option Addr) (dc : Nat) (ds : List DaC) (lab : List UInt8) (o d k : Nat) (acc cut dd er pr : Int) (w : World) (hn : NetIn w n) (hT : DTab w D ds) (hL : DaysOk n ds) (hk : KW w) (hs : Sound n) (ho : o < n.offs.length) (hd : d < n.offs.length) (hkc : k < n.clss.length) (ha1 : 0 ≤ acc) (ha2 : acc ≤ 1000000)
    (hcut : firstR (calAt n o) (clsAt n k).cut acc = (cut, 0)) (hval : DayIs ds k o d pr) (hpr : 0 ≤ pr) (hadd : 200 < pr ∧ dd = 0 ∧ er = 1 ∨ pr ≤ 200 ∧ addN (calAt n d) pr.toNat (dayOf (calAt n d) cut) = (dd, er) ∧ er ≠ 0) :
    Calls Tryz.prog 19 #[netV n, .slice D ds.length dc, postV lab o d k acc] w fun e w' => e = .returned (.tuple #[iV 0, iV er]) ∧ Below w.heap.size w w' := by
  have hmf : ∀ (fn : Fn) (first cap : Array Value) (w : World), (Instr.makeFunc fn first cap).run Tryz.prog w = .ok (.func fn first cap) w := fun _ _ _ _ => rfl
  have HD := Lib.hid (Wd3.new w n lab o d k acc)
  have hx0 : ((((w.alloc (netO n)).alloc (.cells #[sV lab, iV o, iV d, iV k, iV acc] 66)).alloc (.cells #[iV 0] 3)).alloc (.cells #[iV 0] 44)).heap[w.heap.size]? = some (netO n) := (Below.heap_alloc _ _ _ (by simp <;> omega)).trans ((Below.heap_alloc _ _ _ (by simp <;> omega)).trans ((Below.heap_alloc _ _ _ (by simp)).trans (heap_alloc_new _ _)))
  have HNP : Hid (NetP ((((w.alloc (netO n)).alloc (.cells #[sV lab, iV o, iV d, iV k, iV acc] 66)).alloc (.cells #[iV 0] 3)).alloc (.cells #[iV 0] 44)) w.heap.size n) := ⟨fun i v hv => (cell_of_row _ _ _ _ _ _ hx0).trans hv, hn.below HD.out.bel⟩
  have HT := Lib.hid (hT.below HD.out.bel)
  have HK := Lib.hid (hk.below HD.out.bel)
  have HS := Lib.hid hs; clear hs
  obtain ⟨ci, hci⟩ := HS.out.1.good.calAt ho
  have HCI := Lib.hid hci; clear hci
  obtain ⟨di, hdi⟩ := HS.out.1.good.calAt hd
  have HDI := Lib.hid hdi; clear hdi
  have HCL := Lib.hid (HS.out.1.good.cls _ (List.mem_of_getElem? (clsAt_get hkc)))
  have HCUT := Lib.hid hcut; clear hcut
  have HVAL := Lib.hid hval; clear hval
  have HADD := Lib.hid hadd; clear hadd
  have hf := HS.out.1.good.few
  have HL := Lib.hid hL
  have HPR := Lib.hid hpr
  clear hn hT hk hx0 hL hpr
  go_enter_defers Tryz.func19, Tryz.ntmps19
  go_upto_region 2 with fail
  change Code.wp _ _ _ _ ((((w.alloc (netO n)).alloc (.cells #[sV lab, iV o, iV d, iV k, iV acc] 66)).alloc (.cells #[iV 0] 3)).alloc (.cells #[iV 0] 44))
  generalize ((((w.alloc (netO n)).alloc (.cells #[sV lab, iV o, iV d, iV k, iV acc] 66)).alloc (.cells #[iV 0] 3)).alloc (.cells #[iV 0] 44)) = W at *
  generalize hX : w.heap.size = X at *
  have HX := Lib.hid hX; clear hX
  have n3 : W.cell? ⟨X, 3, none⟩ = some (.slice n.offA n.offs.length n.offC) := HNP.out.box 3 _ rfl
  have n5 : W.cell? ⟨X, 5, none⟩ = some (.slice n.clsA n.clss.length n.clsC) := HNP.out.box 5 _ rfl
  have p1 : W.cell? ⟨X + 1, 1, none⟩ = some (iV o) := cell_of_row _ _ 1 _ _ _ HD.out.post
  have p2 : W.cell? ⟨X + 1, 2, none⟩ = some (iV d) := cell_of_row _ _ 2 _ _ _ HD.out.post
  have p3 : W.cell? ⟨X + 1, 3, none⟩ = some (iV k) := cell_of_row _ _ 3 _ _ _ HD.out.post
  have p4 : W.cell? ⟨X + 1, 4, none⟩ = some (iV acc) := cell_of_row _ _ 4 _ _ _ HD.out.post
  go_wp2_with fail
  refine (complete_d _ n D dc ds _ HNP.out HT.out HL.out hf.2.2.2 hf.2.1).mono ?_
  rintro e w' ⟨rfl, rfl⟩
  go_wp2_with fail
  refine (inside_b _ _ _).mono ?_
  rintro e w' ⟨rfl, rfl⟩
  rw [inB_iff.2 ⟨by omega, by omega⟩]
  go_wp2_with fail
  refine (demand_yes _).mono ?_
  rintro e w' ⟨rfl, rfl⟩
  go_wp2_with fail
  refine (inside_b _ _ _).mono ?_
  rintro e w' ⟨rfl, rfl⟩
  rw [inB_iff.2 ⟨by omega, by omega⟩]
  go_wp2_with fail
  refine (inside_b _ _ _).mono ?_
  rintro e w' ⟨rfl, rfl⟩
  rw [inB_iff.2 ⟨by omega, by omega⟩]
  go_wp2_with fail
  refine (demand_yes _).mono ?_
  rintro e w' ⟨rfl, rfl⟩
  go_wp2_with fail
  refine (sound_yes _ n _ HNP.out HK.out HS.out).mono ?_
  rintro e w1 ⟨rfl, hb⟩
  have HD1 := Lib.hid (HD.out.below hb)
  have HNP1 := Lib.hid (HNP.out.below hb)
  have HT1 := Lib.hid (HT.out.below hb)
  clear hb HD HNP HT n3 n5 p1 p2 p3 p4
  go_wp2_with fail
  refine (demand_yes _).mono ?_
  rintro e w' ⟨rfl, rfl⟩
  obtain ⟨-, lb, lo, hlA, hlb, hl0, hlc⟩ := elem_at encCls_len HNP1.out.net.clss (clsAt_get hkc) (by omega)
  have n5 : w1.cell? ⟨X, 5, none⟩ = some (.slice n.clsA n.clss.length n.clsC) := HNP1.out.box 5 _ rfl
  have l0 : w1.cell? ⟨lb, lo + k * 3, none⟩ = some (sV (clsAt n k).name) := hl0 _ rfl
  have l1 : w1.cell? ⟨lb, lo + k * 3 + 1, none⟩ = some (iV (clsAt n k).cut) := hlc 1 _ rfl
  have l2 : w1.cell? ⟨lb, lo + k * 3 + 2, none⟩ = some (iV (clsAt n k).deliver) := hlc 2 _ rfl
  rw [hlA] at n5
  have p3 : w1.cell? ⟨X + 1, 3, none⟩ = some (iV k) := cell_of_row _ _ 3 _ _ _ HD1.out.post
  have j1 : (0 : Int) ≤ (k : Int) := by omega
  have j2 : (k : Int) < (n.clss.length : Int) := by omega
  clear hl0 hlc hlA hlb
  go_wp2_with fail
  clear n5 l0 l1 l2 p3
  have hcx := heap_alloc_new w1 (.cells #[sV (clsAt n k).name, iV (clsAt n k).cut, iV (clsAt n k).deliver] 76)
  have HCX := Lib.hid hcx; clear hcx
  have hba := ba w1 (.cells #[sV (clsAt n k).name, iV (clsAt n k).cut, iV (clsAt n k).deliver] 76)
  have HD2 := Lib.hid (HD1.out.below hba)
  have HNP2 := Lib.hid (HNP1.out.below hba)
  have HT2 := Lib.hid (HT1.out.below hba)
  have HCBX : Hid (X + 1 + 1 + 1 < w1.heap.size) := block_lt HD1.out.err
  clear hba HD1 HNP1 HT1
  change Code.wp _ _ _ _ (w1.alloc (.cells #[sV (clsAt n k).name, iV (clsAt n k).cut, iV (clsAt n k).deliver] 76))
  generalize (w1.alloc (.cells #[sV (clsAt n k).name, iV (clsAt n k).cut, iV (clsAt n k).deliver] 76)) = W2 at *
  generalize w1.heap.size = CB at *
  have HSw : Hid (∀ w', Below W2.heap.size W2 w' → w'.cell? ⟨X + 1, 1, none⟩ = some (iV o) ∧ w'.cell? ⟨X + 1, 4, none⟩ = some (iV acc) ∧ w'.cell? ⟨CB, 1, none⟩ = some (iV (clsAt n k).cut)) := fun w' hb =>
    ⟨cell_of_row _ _ 1 _ _ _ (HD2.out.below hb).post, cell_of_row _ _ 4 _ _ _ (HD2.out.below hb).post, cell_of_row _ _ 1 _ _ _ ((hb.block _ (block_lt HCX.out)).trans HCX.out)⟩
  have HCF : Hid (∀ W, CalIn W (calAt n o) → Calls Tryz.prog 50 #[calV (calAt n o), iV (clsAt n k).cut, iV acc] W fun e w' => e = .returned (.tuple #[iV cut, iV 0]) ∧ Below W.heap.size W w') := fun W h => by
    have := first_any (calAt n o) (clsAt n k).cut acc W h HCI.out.2.2 HCL.out.1 HCL.out.2.1 (by omega) (by omega)
    rwa [HCUT.out] at this
  go_region_held3 (fun w' => w'.cell? ⟨X + 1, 1, none⟩ = some (iV o) ∧ w'.cell? ⟨X + 1, 4, none⟩ = some (iV acc) ∧ w'.cell? ⟨CB, 1, none⟩ = some (iV (clsAt n k).cut)) (first | (with_reducible exact HSw.out _ (b_drew (Below.refl _ _))) | (with_reducible exact HSw.out _ HB1a.out) | (with_reducible exact HSw.out _ HB1b.out)) (first
      | (go_at_call 51; refine (calof_any X n o ci _ _ _ (HNP2.out.drewN 1) (offAt_get ho) HCI.out.1 HCI.out.2.1).mono ?_; rintro e w1a ⟨rfl, hb⟩; have HB1a := Lib.hid (bdr hb); clear hb)
      | (go_at_call 50; refine (HCF.out _ ((HNP2.out.net.cal _ (List.mem_of_getElem? HCI.out.2.1)).below HB1a.out)).mono ?_; rintro e w2 ⟨rfl, hb⟩; have HB1b := Lib.hid (bt HB1a.out hb); clear hb)
      | (go_at_call 54; refine (must_yes _ _).mono ?_; rintro e w4 ⟨rfl, rfl⟩)
      | fail)
  have HD3 := Lib.hid (HD2.out.below HB1b.out)
  have HNP3 := Lib.hid (HNP2.out.below HB1b.out)
  have HT3 := Lib.hid (HT2.out.below HB1b.out)
  have HCX3 := Lib.hid ((HB1b.out.block _ (block_lt HCX.out)).trans HCX.out)
  clear HSw HCF HD2 HNP2 HT2 HCX HB1a HB1b
  obtain ⟨x, r, v1, v2, v3⟩ := HVAL.out
  have hds : ds.length ≤ 4 := by have := HL.out.1; omega
  have hsq := HL.out.2 x (List.mem_of_getElem? v1)
  have hrl := hsq.2 r (List.mem_of_getElem? v2)
  have hxl := hsq.1
  obtain ⟨D1, D2, dl, dc', E1, E2, el, ec, F1, F2, fl, fc, hdv, l1, l2, l3, l4, l5, l6, -, -, -, t1, t2, t3⟩ := dayAt_of (dc := dc) HT3.out (by omega) v1 v2 v3 (by omega) (by omega)
  have HS7 : Hid (w2.cell? ⟨X + 1, 1, none⟩ = some (iV o) ∧ w2.cell? ⟨X + 1, 2, none⟩ = some (iV d) ∧ w2.cell? ⟨X + 1, 3, none⟩ = some (iV k) ∧ w2.cell? ⟨D1, D2 + k, none⟩ = some (.slice (some ⟨E1, E2, none⟩) el ec) ∧ w2.cell? ⟨E1, E2 + o, none⟩ = some (.slice (some ⟨F1, F2, none⟩) fl fc) ∧ w2.cell? ⟨F1, F2 + d, none⟩ = some (iV pr)) :=
    ⟨cell_of_row _ _ 1 _ _ _ HD3.out.post, cell_of_row _ _ 2 _ _ _ HD3.out.post, cell_of_row _ _ 3 _ _ _ HD3.out.post, t1, t2, t3⟩
  have HS7d : Hid (w2.drew.cell? ⟨X + 1, 1, none⟩ = some (iV o) ∧ w2.drew.cell? ⟨X + 1, 2, none⟩ = some (iV d) ∧ w2.drew.cell? ⟨X + 1, 3, none⟩ = some (iV k) ∧ w2.drew.cell? ⟨D1, D2 + k, none⟩ = some (.slice (some ⟨E1, E2, none⟩) el ec) ∧ w2.drew.cell? ⟨E1, E2 + o, none⟩ = some (.slice (some ⟨F1, F2, none⟩) fl fc) ∧ w2.drew.cell? ⟨F1, F2 + d, none⟩ = some (iV pr)) := HS7.out
  have HDV := Lib.hid hdv
  rw [hdv]
  clear hdv v1 v2 v3 hsq hrl hxl hds
  have k9 : (0 : Int) ≤ (k : Int) := by omega
  have m1 : (k : Int) < (dl : Int) := by omega
  have m2 : (o : Int) < (el : Int) := by omega
  have m3 : (d : Int) < (fl : Int) := by omega
  have hp0 : ¬ pr < 0 := by have := HPR.out; omega
  have i1 : (0 : Int) ≤ (o : Int) := by omega
  have i2 : (o : Int) < (n.offs.length : Int) := by omega
  have i3 : (0 : Int) ≤ (d : Int) := by omega
  have i4 : (d : Int) < (n.offs.length : Int) := by omega
  clear t1 t2 t3
  go_wp2_with fail
  go_region_held3 (fun w' => w'.cell? ⟨X + 1, 1, none⟩ = some (iV o) ∧ w'.cell? ⟨X + 1, 2, none⟩ = some (iV d) ∧ w'.cell? ⟨X + 1, 3, none⟩ = some (iV k) ∧ w'.cell? ⟨D1, D2 + k, none⟩ = some (.slice (some ⟨E1, E2, none⟩) el ec) ∧ w'.cell? ⟨E1, E2 + o, none⟩ = some (.slice (some ⟨F1, F2, none⟩) fl fc) ∧ w'.cell? ⟨F1, F2 + d, none⟩ = some (iV pr)) (first | (with_reducible exact HS7d.out)) (fail)
  clear HS7 HS7d
  have HD4 := Lib.hid (HD3.out.below (b_drew (Below.refl _ _)))
  have HNP4 := Lib.hid (HNP3.out.below (b_drew (Below.refl _ _)))
  have HCX4 : Hid (w2.drew.heap[CB]? = some (.cells #[sV (clsAt n k).name, iV (clsAt n k).cut, iV (clsAt n k).deliver] 76 (0, 0))) := HCX3.out
  clear HD3 HNP3 HT3 HCX3
  generalize w2.drew = W3 at *
  have p2 : W3.cell? ⟨X + 1, 2, none⟩ = some (iV d) := cell_of_row _ _ 2 _ _ _ HD4.out.post
  go_wp2_with fail
  refine (calof_any X n d di _ _ _ HNP4.out (offAt_get hd) HDI.out.1 HDI.out.2.1).mono ?_
  rintro e w4 ⟨rfl, hb⟩
  have HD5 := Lib.hid (HD4.out.below hb)
  have HCC := Lib.hid ((HNP4.out.below hb).net.cal _ (List.mem_of_getElem? HDI.out.2.1))
  have HCX5 := Lib.hid ((hb.block _ (block_lt HCX4.out)).trans HCX4.out)
  clear hb HD4 HNP4 HCX4 p2
  have hin : acc ≤ cut ∧ cut ≤ acc + 90000 := firstR_in HCL.out.1 HCL.out.2.1 HCUT.out
  have hzz := calB_zone HDI.out.2.2
  obtain ⟨z1, z2, -⟩ := hzz
  have hda : dayR (dayOf (calAt n d) cut) = true := by unfold dayR dayOf; simp; omega
  have HDA := Lib.hid hda; clear hda
  generalize hCQ : calAt n d = C at *
  have HCQ := Lib.hid hCQ; clear hCQ
  have hx := heap_alloc_new w4 (.cells #[iV C.zone, .slice C.wA C.week.length C.wc, .slice C.hA C.hol.length C.hc] 58)
  have hba := ba w4 (.cells #[iV C.zone, .slice C.wA C.week.length C.wc, .slice C.hA C.hol.length C.hc] 58)
  have HX6 := Lib.hid hx
  have HD6 := Lib.hid (HD5.out.below hba)
  have HC6 := Lib.hid (HCC.out.below hba)
  have HCX6 := Lib.hid ((hba.block _ (block_lt HCX5.out)).trans HCX5.out)
  have k0 : (w4.alloc (.cells #[iV C.zone, .slice C.wA C.week.length C.wc, .slice C.hA C.hol.length C.hc] 58)).cell? ⟨w4.heap.size, 0, none⟩ = some (iV C.zone) := cell_of_row _ _ 0 _ _ _ hx
  have k1 : (w4.alloc (.cells #[iV C.zone, .slice C.wA C.week.length C.wc, .slice C.hA C.hol.length C.hc] 58)).cell? ⟨w4.heap.size, 1, none⟩ = some (.slice C.wA C.week.length C.wc) := cell_of_row _ _ 1 _ _ _ hx
  have k2 : (w4.alloc (.cells #[iV C.zone, .slice C.wA C.week.length C.wc, .slice C.hA C.hol.length C.hc] 58)).cell? ⟨w4.heap.size, 2, none⟩ = some (.slice C.hA C.hol.length C.hc) := cell_of_row _ _ 2 _ _ _ hx
  have HYX : Hid (X + 1 + 1 + 1 < w4.heap.size) := block_lt HD5.out.err
  clear hx hba HD5 HCC HCX5
  go_wp2_with fail
  generalize (w4.alloc (.cells #[iV C.zone, .slice C.wA C.week.length C.wc, .slice C.hA C.hol.length C.hc] 58)) = W4 at *
  generalize w4.heap.size = Y at *
  refine (local_any C cut _ HC6.out HDI.out.2.2 (by omega) (by omega)).mono ?_
  rintro e w5 ⟨rfl, hb⟩
  have HX7 := Lib.hid ((hb.block _ (block_lt HX6.out)).trans HX6.out)
  have HD7 := Lib.hid (HD6.out.below hb)
  have HC7 := Lib.hid (HC6.out.below hb)
  have HCX7 := Lib.hid ((hb.block _ (block_lt HCX6.out)).trans HCX6.out)
  clear hb HX6 HD6 HC6 HCX6 k0 k1 k2
  go_wp2_with fail
  have HSw : Hid (∀ w', Below w5.heap.size w5 w' → w'.cell? ⟨Y, 0, none⟩ = some (iV C.zone) ∧ w'.cell? ⟨Y, 1, none⟩ = some (.slice C.wA C.week.length C.wc) ∧ w'.cell? ⟨Y, 2, none⟩ = some (.slice C.hA C.hol.length C.hc) ∧ w'.cell? ⟨CB, 2, none⟩ = some (iV (clsAt n k).deliver)) := fun w' hb =>
    ⟨cell_of_row _ _ 0 _ _ _ ((hb.block _ (block_lt HX7.out)).trans HX7.out), cell_of_row _ _ 1 _ _ _ ((hb.block _ (block_lt HX7.out)).trans HX7.out), cell_of_row _ _ 2 _ _ _ ((hb.block _ (block_lt HX7.out)).trans HX7.out), cell_of_row _ _ 2 _ _ _ ((hb.block _ (block_lt HCX7.out)).trans HCX7.out)⟩
  have HER : Hid (er ≠ 0) := by
    rcases HADD.out with h | h
    · show er ≠ 0
      omega
    · exact h.2.2
  have HCA : Hid (∀ W, CalIn W C → Calls Tryz.prog 56 #[calV C, iV (dayOf C cut), iV pr] W fun e w' => e = .returned (.tuple #[iV dd, iV er]) ∧ Below W.heap.size W w') := fun W h => by
    rcases HADD.out with ⟨h1, h2, h3⟩ | ⟨h1, h2, -⟩
    · subst h2
      subst h3
      exact add_far C (dayOf C cut) pr W h HDI.out.2.2 HDA.out h1
    · have := addn_any C (dayOf C cut) pr.toNat W h HDI.out.2.2 HDA.out (by omega)
      rwa [h2, show ((pr.toNat : Nat) : Int) = pr by have := HPR.out; omega] at this
  refine wp_region_pan (HeldA (.pointer (some ⟨X + 1 + 1, 0, none⟩)) (.pointer (some ⟨X + 1 + 1 + 1, 0, none⟩)) [{ target := .fn (.func 52) #[.pointer (some ⟨X + 1 + 1, 0, none⟩), .pointer (some ⟨X + 1 + 1 + 1, 0, none⟩)], args := #[] }]) ?_
  refine wp_region_held_drew (S := (fun w' => w'.cell? ⟨Y, 0, none⟩ = some (iV C.zone) ∧ w'.cell? ⟨Y, 1, none⟩ = some (.slice C.wA C.week.length C.wc) ∧ w'.cell? ⟨Y, 2, none⟩ = some (.slice C.hA C.hol.length C.hc) ∧ w'.cell? ⟨CB, 2, none⟩ = some (iV (clsAt n k).deliver))) (by kernel_rfl) (HSw.out _ (b_drew (Below.refl _ _))) (fun hHeld => ?_)
  refine wpAnyH_take (i := 0) (v := ?_) rfl (by kernel_rfl) (by kernel_rfl) (by kernel_rfl) (PanQ.take (held_put (by decide) (by decide))) (Or.inl ⟨by kernel_rfl, ?_⟩) (by assumption) ?_
  rotate_left
  · (intro w hSw; (try dsimp only at hSw); go_simp; (try with_reducible rfl))
  try simp only [Act.put, List.getElem_toArray, List.getElem_cons_zero, List.setIfInBounds_toArray, List.set_cons_zero, List.set_cons_succ]
  refine wpAnyH_take (i := 1) (v := ?_) rfl (by kernel_rfl) (by kernel_rfl) (by kernel_rfl) (PanQ.take (held_put (by decide) (by decide))) (Or.inl ⟨by kernel_rfl, ?_⟩) (by assumption) ?_
  rotate_left
  · (intro w hSw; (try dsimp only at hSw); go_simp; (try with_reducible rfl))
  try simp only [Act.put, List.getElem_toArray, List.getElem_cons_succ, List.getElem_cons_zero, List.setIfInBounds_toArray, List.set_cons_zero, List.set_cons_succ]
  refine wpAnyH_take (i := 2) (v := ?_) rfl (by kernel_rfl) (by kernel_rfl) (by kernel_rfl) (PanQ.take (held_put (by decide) (by decide))) (Or.inl ⟨by kernel_rfl, ?_⟩) (by assumption) ?_
  rotate_left
  · (intro w hSw; (try dsimp only at hSw); go_simp; (try with_reducible rfl))
  try simp only [Act.put, List.getElem_toArray, List.getElem_cons_succ, List.getElem_cons_zero, List.setIfInBounds_toArray, List.set_cons_zero, List.set_cons_succ]
  refine wpAnyH_take (i := 3) (v := ?_) rfl (by kernel_rfl) (by kernel_rfl) (by kernel_rfl) (PanQ.take (held_put (by decide) (by decide))) (Or.inl ⟨by kernel_rfl, ?_⟩) (by assumption) ?_
  rotate_left
  · (intro w hSw; (try dsimp only at hSw); go_simp; (try with_reducible rfl))
  try simp only [Act.put, List.getElem_toArray, List.getElem_cons_succ, List.getElem_cons_zero, List.setIfInBounds_toArray, List.set_cons_zero, List.set_cons_succ]
  refine wpAnyH_take (i := 8) (v := ?_) rfl (by kernel_rfl) (by kernel_rfl) (by kernel_rfl) (PanQ.take (held_put (by decide) (by decide))) (Or.inl ⟨by kernel_rfl, ?_⟩) (by assumption) ?_
  rotate_left
  · (intro w hSw; (try dsimp only at hSw); go_simp; (try with_reducible rfl))
  try simp only [Act.put, List.getElem_toArray, List.getElem_cons_succ, List.getElem_cons_zero, List.setIfInBounds_toArray, List.set_cons_zero, List.set_cons_succ]
  refine wpAnyH_take (i := 9) (v := ?_) rfl (by kernel_rfl) (by kernel_rfl) (by kernel_rfl) (PanQ.take (held_put (by decide) (by decide))) (Or.inl ⟨by kernel_rfl, ?_⟩) (by assumption) ?_
  rotate_left
  · (intro w hSw; (try dsimp only at hSw); go_simp; (try with_reducible rfl))
  try simp only [Act.put, List.getElem_toArray, List.getElem_cons_succ, List.getElem_cons_zero, List.setIfInBounds_toArray, List.set_cons_zero, List.set_cons_succ]
  refine wpAnyH_ready (rs := [4]) (by kernel_rfl) (by simp) ?_
  refine AllReadyH.cons rfl (fun K hK => ?_) AllReadyH.nil
  go_simp
  go_at_call 56
  refine (HCA.out _ (HC7.out.below (b_drew (Below.refl _ _)))).mono ?_
  rintro e w8 ⟨rfl, hb⟩
  have HB8 := Lib.hid (bdr hb)
  clear hb
  go_wp2_with fail
  refine hK.out _ _ (HSw.out _ HB8.out) (fun hHeld => ?_)
  clear hK K
  try simp only [Act.put, List.getElem_toArray, List.getElem_cons_succ, List.getElem_cons_zero, List.setIfInBounds_toArray, List.set_cons_zero, List.set_cons_succ]
  refine wpAnyH_take (i := 5) (v := ?_) rfl (by kernel_rfl) (by kernel_rfl) (by kernel_rfl) (PanQ.take (held_put (by decide) (by decide))) (Or.inl ⟨by kernel_rfl, ?_⟩) (by assumption) ?_
  rotate_left
  · (intro w hSw; (try dsimp only at hSw); go_simp; (try with_reducible rfl))
  try simp only [Act.put, List.getElem_toArray, List.getElem_cons_succ, List.getElem_cons_zero, List.setIfInBounds_toArray, List.set_cons_zero, List.set_cons_succ]
  refine wpAnyH_take (i := 6) (v := ?_) rfl (by kernel_rfl) (by kernel_rfl) (by kernel_rfl) (PanQ.take (held_put (by decide) (by decide))) (Or.inl ⟨by kernel_rfl, ?_⟩) (by assumption) ?_
  rotate_left
  · (intro w hSw; (try dsimp only at hSw); go_simp; (try with_reducible rfl))
  try simp only [Act.put, List.getElem_toArray, List.getElem_cons_succ, List.getElem_cons_zero, List.setIfInBounds_toArray, List.set_cons_zero, List.set_cons_succ]
  refine wpAnyH_ready (rs := [7]) (by kernel_rfl) (by simp) ?_
  refine AllReadyH.cons rfl (fun K hK => ?_) AllReadyH.nil
  go_simp
  go_at_call 54
  refine (must_no _ _ _ HER.out).mono ?_
  rintro e w4 ⟨rfl, rfl⟩
  refine ⟨⟨rfl, rfl, rfl⟩, ?_⟩
  rintro ⟨tmps, defs⟩ ⟨h6, h7, h8⟩
  dsimp only at h6 h7 h8
  subst h8
  have HD8 := Lib.hid (HD7.out.below HB8.out)
  change Leaves Tryz.prog _ _ _ _ _ _
  refine leaves_cons (f := 52) (args := #[.pointer (some ⟨X + 1 + 1, 0, none⟩), .pointer (some ⟨X + 1 + 1 + 1, 0, none⟩)]) (by simp) (by simp [go_sem]) ?_
  refine (due_pan (X + 1 + 1) (X + 1 + 1 + 1) _ _ _ _ _ (cell_of_row _ _ 0 _ _ _ HD8.out.res) (frozen_row HD8.out.res 0) (cell_of_row _ _ 0 _ _ _ HD8.out.err) (frozen_row HD8.out.err 0) (by omega)).mono ?_
  rintro e u' w'' ⟨rfl, rfl, rfl⟩
  have hD := HD8.out.set (iV 0) (iV er)
  refine ⟨_, hD.out tmps h6 h7, rfl, ?_⟩
  rw [HX.out]
  exact hD.bel
theorem addN_err {c : Cal} {k : Nat} {d : Int} (h : (addN c k d).2 ≠ 0) : addN c k d = (0, 20) ∧ 0 < k := by
  cases k with
  | zero => rw [addN_zero] at h; exact absurd rfl h
  | succ k =>
    refine ⟨?_, Nat.succ_pos _⟩
    unfold addN at h ⊢
    split at h
    · exact absurd rfl h
    · rename_i g
      rfl
/-- Due, for whatever number of days. -/
theorem due_any (n : Net) (D : Option Addr) (dc : Nat) (ds : List DaC) (lab : List UInt8) (o d k : Nat) (acc cut pr : Int) (w : World) (hn : NetIn w n) (hT : DTab w D ds) (hL : DaysOk n ds) (hk : KW w) (hs : Sound n) (ho : o < n.offs.length) (hd : d < n.offs.length) (hkc : k < n.clss.length) (ha1 : 0 ≤ acc) (ha2 : acc ≤ 1000000)
    (hcut : firstR (calAt n o) (clsAt n k).cut acc = (cut, 0)) (hval : DayIs ds k o d pr) (hpr : 0 ≤ pr) :
    ∃ due er : Int, (er = 0 ∧ (∃ Z, addN (calAt n d) pr.toNat (dayOf (calAt n d) cut) = (Z, 0) ∧ due = timeOf (calAt n d) Z (clsAt n k).deliver) ∨ (er = 1 ∨ er = 20) ∧ 0 < pr) ∧
      Calls Tryz.prog 19 #[netV n, .slice D ds.length dc, postV lab o d k acc] w fun e w' => e = .returned (.tuple #[iV due, iV er]) ∧ Below w.heap.size w w' := by
  by_cases h : 200 < pr
  · exact ⟨0, 1, .inr ⟨.inl rfl, by omega⟩, due_no n D dc ds lab o d k acc cut 0 1 pr w hn hT hL hk hs ho hd hkc ha1 ha2 hcut hval hpr (.inl ⟨h, rfl, rfl⟩)⟩
  · by_cases h0 : (addN (calAt n d) pr.toNat (dayOf (calAt n d) cut)).2 = 0
    · have e : addN (calAt n d) pr.toNat (dayOf (calAt n d) cut) = ((addN (calAt n d) pr.toNat (dayOf (calAt n d) cut)).1, 0) := by rw [← h0]
      exact ⟨_, 0, .inl ⟨rfl, _, e, rfl⟩, due_yes n D dc ds lab o d k acc cut _ pr w hn hT hL hk hs ho hd hkc ha1 ha2 hcut hval ⟨hpr, by omega⟩ e⟩
    · obtain ⟨e, h1⟩ := addN_err h0
      exact ⟨0, 20, .inr ⟨.inr rfl, by omega⟩, due_no n D dc ds lab o d k acc cut 0 20 pr w hn hT hL hk hs ho hd hkc ha1 ha2 hcut hval hpr (.inr ⟨by omega, e, by decide⟩)⟩
end Go.Proofs.YtjpabeoflhkfkaaGreatDoor
