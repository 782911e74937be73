/-
  The walks over promise.complete and promise.Due for a table of promises that came in. The walk over the law's head: fixed examples.
-/
import Derived.Test.YtjpabeoflhkfkaaGreatDoorPo
import Derived.Test.YtjpabeoflhkfkaaGreatDoorPk
import Derived.Test.YtjpabeoflhkfkaaGreatDoorPb
import Derived.Test.YtjpabeoflhkfkaaGreatDoorPq
import Derived.Test.YtjpabeoflhkfkaaGreatDoorPp
namespace Go.Proofs.YtjpabeoflhkfkaaGreatDoor
open Go.RowKit

/-- A table of promises is complete. -/
def DaysOk (n : Net) (ds : List DaC) : Prop := ds.length = n.clss.length ∧ ∀ x ∈ ds, Sq n.offs.length x.rows
def DayIs (ds : List DaC) (k o d : Nat) (pr : Int) : Prop := ∃ x r, ds[k]? = some x ∧ x.rows[o]? = some r ∧ r.ns[d]? = some pr
theorem addR_in {c : Cal} : ∀ {n : Nat} {d x : Int}, addR c n d = some x → d ≤ x ∧ x ≤ d + 60 * n
  | 0, d, x, h => by
    cases Option.some.inj h
    omega
  | n + 1, d, x, h => by
    unfold addR at h
    cases h2 : nextW c 60 (d + 1) with
    | none => rw [h2] at h; cases h
    | some y =>
      rw [h2] at h
      have h3 := nextW_some h2
      have h4 := addR_in (c := c) (n := n) (d := y) h
      push_cast
      omega
theorem addN_ok {c : Cal} {n : Nat} {d x : Int} (h : addN c n d = (x, 0)) : addR c n d = some x := by
  unfold addN at h
  cases h2 : addR c n d with
  | none => rw [h2] at h; have := (Prod.mk.inj h).2; omega
  | some y => rw [h2] at h; rw [(Prod.mk.inj h).1]
theorem addN_in {c : Cal} {n : Nat} {d x : Int} (h : addN c n d = (x, 0)) : d ≤ x ∧ x ≤ d + 60 * n := addR_in (addN_ok h)
set_option maxHeartbeats 4000000 in
set_option maxRecDepth 100000 in
theorem complete_d (N : Nat) (n : Net) (D : Option Addr) (dc : Nat) (ds : List DaC) (w : World) (hN : NetP w N n) (hT : DTab w D ds) (hL : DaysOk n ds) (h1 : n.clss.length ≤ 4) (h2 : n.offs.length ≤ 12) :
    Calls Tryz.prog 53 #[.pointer (some ⟨N, 0, none⟩), .slice D ds.length dc] w fun e w' => e = .returned (.bool true) ∧ w = w' := by
  have n5 : w.cell? ⟨N, 5, none⟩ = some (.slice n.clsA n.clss.length n.clsC) := hN.box 5 _ rfl
  have n3 : w.cell? ⟨N, 3, none⟩ = some (.slice n.offA n.offs.length n.offC) := hN.box 3 _ rfl
  have HT := Lib.hid hT; clear hT
  have HL := Lib.hid hL; clear hL
  have hd4 : ds.length ≤ 4 := by have := HL.out.1; omega
  have e1 : ((ds.length : Int) != (n.clss.length : Int)) = false := by rw [HL.out.1]; simp
  clear hN
  go_enter Tryz.func53, Tryz.ntmps53
  go_wp2
  go_loop [19] (fun i => ∃ k : Nat, k ≤ ds.length ∧ i = iV k) (fun i => 5 - (intOf i).toNat)
  case atStart => exact ⟨0, by omega, rfl⟩
  case round =>
    obtain ⟨k, hk, rfl⟩ := hrel
    have k0 : (0 : Int) ≤ (k : Int) := by omega
    by_cases hlt : k < ds.length
    · have k1 : (k : Int) < (ds.length : Int) := by omega
      obtain ⟨x, hx⟩ : ∃ x, ds[k]? = some x := ⟨_, List.getElem?_eq_getElem hlt⟩
      obtain ⟨S, so, hA, -, hcell⟩ := HT.out.rd.get (i := k) (by simpa using hlt)
      have c1 : w.cell? ⟨S, so + k, none⟩ = some (.slice x.A x.rows.length x.c) := hcell k (slD x) (by rw [List.getElem?_map, hx]; rfl)
      have HTX := Lib.hid (HT.out.row x (List.mem_of_getElem? hx)).1
      have HSQ := Lib.hid (HL.out.2 x (List.mem_of_getElem? hx))
      have e2 : ((x.rows.length : Int) != (n.offs.length : Int)) = false := by rw [HSQ.out.1]; simp
      have HAE := Lib.hid hA
      have hx12 : x.rows.length ≤ 12 := by have := HSQ.out.1; omega
      clear hcell hx
      rw [hA]
      clear hA
      go_wp2
      clear c1
      go_loop [33] (fun i => ∃ m : Nat, m ≤ x.rows.length ∧ i = iV m) (fun i => 13 - (intOf i).toNat)
      case atStart => exact ⟨0, by omega, rfl⟩
      case round =>
        obtain ⟨m, hm, rfl⟩ := hrel
        have m0 : (0 : Int) ≤ (m : Int) := by omega
        by_cases hmt : m < x.rows.length
        · have m1 : (m : Int) < (x.rows.length : Int) := by omega
          obtain ⟨r, hr⟩ : ∃ r, x.rows[m]? = some r := ⟨_, List.getElem?_eq_getElem hmt⟩
          obtain ⟨T, to9, hB, -, hcell⟩ := HTX.out.rd.get (i := m) (by simpa using hmt)
          have c2 : w.cell? ⟨T, to9 + m, none⟩ = some (.slice r.A r.ns.length r.c) := hcell m (slI r) (by rw [List.getElem?_map, hr]; rfl)
          have HRL := Lib.hid (HSQ.out.2 r (List.mem_of_getElem? hr))
          have e3 : ((r.ns.length : Int) != (n.offs.length : Int)) = false := by rw [HRL.out]; simp
          have HBE := Lib.hid hB
          clear hcell hr
          rw [hB]
          clear hB
          go_wp2
          go_round
          case rel => exact ⟨m + 1, by omega, by go_num⟩
          case measure => simp [intOf]; omega
        · have m1 : ¬ (m : Int) < (x.rows.length : Int) := by omega
          go_wp2
          go_round
          case rel => exact ⟨k + 1, by omega, by go_num⟩
          case measure => simp [intOf]; omega
    · have k1 : ¬ (k : Int) < (ds.length : Int) := by omega
      go_wp2
      go_ret
      exact ⟨rfl, rfl⟩
set_option maxHeartbeats 8000000 in
set_option maxRecDepth 100000 in
theorem due_yes (n : Net) (D : Option Addr) (dc : Nat) (ds : List DaC) (lab : List UInt8) (o d k : Nat) (acc cut dd pr : Int) (w : World) (hn : NetIn w n) (hT : DTab w D ds) (hL : DaysOk n ds) (hk : KW w) (hs : Sound n) (ho : o < n.offs.length) (hd : d < n.offs.length) (hkc : k < n.clss.length) (ha1 : 0 ≤ acc) (ha2 : acc ≤ 1000000)
    (hcut : firstR (calAt n o) (clsAt n k).cut acc = (cut, 0)) (hval : DayIs ds k o d pr) (hpr : 0 ≤ pr ∧ pr ≤ 200) (hadd : addN (calAt n d) pr.toNat (dayOf (calAt n d) cut) = (dd, 0)) :
    Calls Tryz.prog 19 #[netV n, .slice D ds.length dc, postV lab o d k acc] w fun e w' => e = .returned (.tuple #[iV (timeOf (calAt n d) dd (clsAt n k).deliver), iV 0]) ∧ Below w.heap.size w w' := by
  have hmf : ∀ (fn : Fn) (first cap : Array Value) (w : World), (Instr.makeFunc fn first cap).run Tryz.prog w = .ok (.func fn first cap) w := fun _ _ _ _ => rfl
  have HD := Lib.hid (Wd3.new w n lab o d k acc)
  have hx0 : ((((w.alloc (netO n)).alloc (.cells #[sV lab, iV o, iV d, iV k, iV acc] 66)).alloc (.cells #[iV 0] 3)).alloc (.cells #[iV 0] 44)).heap[w.heap.size]? = some (netO n) := (Below.heap_alloc _ _ _ (by simp <;> omega)).trans ((Below.heap_alloc _ _ _ (by simp <;> omega)).trans ((Below.heap_alloc _ _ _ (by simp)).trans (heap_alloc_new _ _)))
  have HNP : Hid (NetP ((((w.alloc (netO n)).alloc (.cells #[sV lab, iV o, iV d, iV k, iV acc] 66)).alloc (.cells #[iV 0] 3)).alloc (.cells #[iV 0] 44)) w.heap.size n) := ⟨fun i v hv => (cell_of_row _ _ _ _ _ _ hx0).trans hv, hn.below HD.out.bel⟩
  have HT := Lib.hid (hT.below HD.out.bel)
  have HK := Lib.hid (hk.below HD.out.bel)
  have HS := Lib.hid hs; clear hs
  obtain ⟨ci, hci⟩ := HS.out.1.good.calAt ho
  have HCI := Lib.hid hci; clear hci
  obtain ⟨di, hdi⟩ := HS.out.1.good.calAt hd
  have HDI := Lib.hid hdi; clear hdi
  have HCL := Lib.hid (HS.out.1.good.cls _ (List.mem_of_getElem? (clsAt_get hkc)))
  have HCUT := Lib.hid hcut; clear hcut
  have HVAL := Lib.hid hval; clear hval
  have HADD := Lib.hid hadd; clear hadd
  have hf := HS.out.1.good.few
  have HL := Lib.hid hL
  have HPR := Lib.hid hpr
  clear hn hT hk hx0 hL hpr
  go_enter_defers Tryz.func19, Tryz.ntmps19
  go_upto_region 2 with fail
  change Code.wp _ _ _ _ ((((w.alloc (netO n)).alloc (.cells #[sV lab, iV o, iV d, iV k, iV acc] 66)).alloc (.cells #[iV 0] 3)).alloc (.cells #[iV 0] 44))
  generalize ((((w.alloc (netO n)).alloc (.cells #[sV lab, iV o, iV d, iV k, iV acc] 66)).alloc (.cells #[iV 0] 3)).alloc (.cells #[iV 0] 44)) = W at *
  generalize hX : w.heap.size = X at *
  have HX := Lib.hid hX; clear hX
  have n3 : W.cell? ⟨X, 3, none⟩ = some (.slice n.offA n.offs.length n.offC) := HNP.out.box 3 _ rfl
  have n5 : W.cell? ⟨X, 5, none⟩ = some (.slice n.clsA n.clss.length n.clsC) := HNP.out.box 5 _ rfl
  have p1 : W.cell? ⟨X + 1, 1, none⟩ = some (iV o) := cell_of_row _ _ 1 _ _ _ HD.out.post
  have p2 : W.cell? ⟨X + 1, 2, none⟩ = some (iV d) := cell_of_row _ _ 2 _ _ _ HD.out.post
  have p3 : W.cell? ⟨X + 1, 3, none⟩ = some (iV k) := cell_of_row _ _ 3 _ _ _ HD.out.post
  have p4 : W.cell? ⟨X + 1, 4, none⟩ = some (iV acc) := cell_of_row _ _ 4 _ _ _ HD.out.post
  go_wp2_with fail
  refine (complete_d _ n D dc ds _ HNP.out HT.out HL.out hf.2.2.2 hf.2.1).mono ?_
  rintro e w' ⟨rfl, rfl⟩
  go_wp2_with fail
  refine (inside_b _ _ _).mono ?_
  rintro e w' ⟨rfl, rfl⟩
  rw [inB_iff.2 ⟨by omega, by omega⟩]
  go_wp2_with fail
  refine (demand_yes _).mono ?_
  rintro e w' ⟨rfl, rfl⟩
  go_wp2_with fail
  refine (inside_b _ _ _).mono ?_
  rintro e w' ⟨rfl, rfl⟩
  rw [inB_iff.2 ⟨by omega, by omega⟩]
  go_wp2_with fail
  refine (inside_b _ _ _).mono ?_
  rintro e w' ⟨rfl, rfl⟩
  rw [inB_iff.2 ⟨by omega, by omega⟩]
  go_wp2_with fail
  refine (demand_yes _).mono ?_
  rintro e w' ⟨rfl, rfl⟩
  go_wp2_with fail
  refine (sound_yes _ n _ HNP.out HK.out HS.out).mono ?_
  rintro e w1 ⟨rfl, hb⟩
  have HD1 := Lib.hid (HD.out.below hb)
  have HNP1 := Lib.hid (HNP.out.below hb)
  have HT1 := Lib.hid (HT.out.below hb)
  clear hb HD HNP HT n3 n5 p1 p2 p3 p4
  go_wp2_with fail
  refine (demand_yes _).mono ?_
  rintro e w' ⟨rfl, rfl⟩
  obtain ⟨-, lb, lo, hlA, hlb, hl0, hlc⟩ := elem_at encCls_len HNP1.out.net.clss (clsAt_get hkc) (by omega)
  have n5 : w1.cell? ⟨X, 5, none⟩ = some (.slice n.clsA n.clss.length n.clsC) := HNP1.out.box 5 _ rfl
  have l0 : w1.cell? ⟨lb, lo + k * 3, none⟩ = some (sV (clsAt n k).name) := hl0 _ rfl
  have l1 : w1.cell? ⟨lb, lo + k * 3 + 1, none⟩ = some (iV (clsAt n k).cut) := hlc 1 _ rfl
  have l2 : w1.cell? ⟨lb, lo + k * 3 + 2, none⟩ = some (iV (clsAt n k).deliver) := hlc 2 _ rfl
  rw [hlA] at n5
  have p3 : w1.cell? ⟨X + 1, 3, none⟩ = some (iV k) := cell_of_row _ _ 3 _ _ _ HD1.out.post
  have j1 : (0 : Int) ≤ (k : Int) := by omega
  have j2 : (k : Int) < (n.clss.length : Int) := by omega
  clear hl0 hlc hlA hlb
  go_wp2_with fail
  clear n5 l0 l1 l2 p3
  have hcx := heap_alloc_new w1 (.cells #[sV (clsAt n k).name, iV (clsAt n k).cut, iV (clsAt n k).deliver] 76)
  have HCX := Lib.hid hcx; clear hcx
  have hba := ba w1 (.cells #[sV (clsAt n k).name, iV (clsAt n k).cut, iV (clsAt n k).deliver] 76)
  have HD2 := Lib.hid (HD1.out.below hba)
  have HNP2 := Lib.hid (HNP1.out.below hba)
  have HT2 := Lib.hid (HT1.out.below hba)
  have HCBX : Hid (X + 1 + 1 + 1 < w1.heap.size) := block_lt HD1.out.err
  clear hba HD1 HNP1 HT1
  change Code.wp _ _ _ _ (w1.alloc (.cells #[sV (clsAt n k).name, iV (clsAt n k).cut, iV (clsAt n k).deliver] 76))
  generalize (w1.alloc (.cells #[sV (clsAt n k).name, iV (clsAt n k).cut, iV (clsAt n k).deliver] 76)) = W2 at *
  generalize w1.heap.size = CB at *
  have HSw : Hid (∀ w', Below W2.heap.size W2 w' → w'.cell? ⟨X + 1, 1, none⟩ = some (iV o) ∧ w'.cell? ⟨X + 1, 4, none⟩ = some (iV acc) ∧ w'.cell? ⟨CB, 1, none⟩ = some (iV (clsAt n k).cut)) := fun w' hb =>
    ⟨cell_of_row _ _ 1 _ _ _ (HD2.out.below hb).post, cell_of_row _ _ 4 _ _ _ (HD2.out.below hb).post, cell_of_row _ _ 1 _ _ _ ((hb.block _ (block_lt HCX.out)).trans HCX.out)⟩
  have HCF : Hid (∀ W, CalIn W (calAt n o) → Calls Tryz.prog 50 #[calV (calAt n o), iV (clsAt n k).cut, iV acc] W fun e w' => e = .returned (.tuple #[iV cut, iV 0]) ∧ Below W.heap.size W w') := fun W h => by
    have := first_any (calAt n o) (clsAt n k).cut acc W h HCI.out.2.2 HCL.out.1 HCL.out.2.1 (by omega) (by omega)
    rwa [HCUT.out] at this
  go_region_held3 (fun w' => w'.cell? ⟨X + 1, 1, none⟩ = some (iV o) ∧ w'.cell? ⟨X + 1, 4, none⟩ = some (iV acc) ∧ w'.cell? ⟨CB, 1, none⟩ = some (iV (clsAt n k).cut)) (first | (with_reducible exact HSw.out _ (b_drew (Below.refl _ _))) | (with_reducible exact HSw.out _ HB1a.out) | (with_reducible exact HSw.out _ HB1b.out)) (first
      | (go_at_call 51; refine (calof_any X n o ci _ _ _ (HNP2.out.drewN 1) (offAt_get ho) HCI.out.1 HCI.out.2.1).mono ?_; rintro e w1a ⟨rfl, hb⟩; have HB1a := Lib.hid (bdr hb); clear hb)
      | (go_at_call 50; refine (HCF.out _ ((HNP2.out.net.cal _ (List.mem_of_getElem? HCI.out.2.1)).below HB1a.out)).mono ?_; rintro e w2 ⟨rfl, hb⟩; have HB1b := Lib.hid (bt HB1a.out hb); clear hb)
      | (go_at_call 54; refine (must_yes _ _).mono ?_; rintro e w4 ⟨rfl, rfl⟩)
      | fail)
  have HD3 := Lib.hid (HD2.out.below HB1b.out)
  have HNP3 := Lib.hid (HNP2.out.below HB1b.out)
  have HT3 := Lib.hid (HT2.out.below HB1b.out)
  have HCX3 := Lib.hid ((HB1b.out.block _ (block_lt HCX.out)).trans HCX.out)
  clear HSw HCF HD2 HNP2 HT2 HCX HB1a HB1b
  obtain ⟨x, r, v1, v2, v3⟩ := HVAL.out
  have hds : ds.length ≤ 4 := by have := HL.out.1; omega
  have hsq := HL.out.2 x (List.mem_of_getElem? v1)
  have hrl := hsq.2 r (List.mem_of_getElem? v2)
  have hxl := hsq.1
  obtain ⟨D1, D2, dl, dc', E1, E2, el, ec, F1, F2, fl, fc, hdv, l1, l2, l3, l4, l5, l6, -, -, -, t1, t2, t3⟩ := dayAt_of (dc := dc) HT3.out (by omega) v1 v2 v3 (by omega) (by omega)
  have HS7 : Hid (w2.cell? ⟨X + 1, 1, none⟩ = some (iV o) ∧ w2.cell? ⟨X + 1, 2, none⟩ = some (iV d) ∧ w2.cell? ⟨X + 1, 3, none⟩ = some (iV k) ∧ w2.cell? ⟨D1, D2 + k, none⟩ = some (.slice (some ⟨E1, E2, none⟩) el ec) ∧ w2.cell? ⟨E1, E2 + o, none⟩ = some (.slice (some ⟨F1, F2, none⟩) fl fc) ∧ w2.cell? ⟨F1, F2 + d, none⟩ = some (iV pr)) :=
    ⟨cell_of_row _ _ 1 _ _ _ HD3.out.post, cell_of_row _ _ 2 _ _ _ HD3.out.post, cell_of_row _ _ 3 _ _ _ HD3.out.post, t1, t2, t3⟩
  have HS7d : Hid (w2.drew.cell? ⟨X + 1, 1, none⟩ = some (iV o) ∧ w2.drew.cell? ⟨X + 1, 2, none⟩ = some (iV d) ∧ w2.drew.cell? ⟨X + 1, 3, none⟩ = some (iV k) ∧ w2.drew.cell? ⟨D1, D2 + k, none⟩ = some (.slice (some ⟨E1, E2, none⟩) el ec) ∧ w2.drew.cell? ⟨E1, E2 + o, none⟩ = some (.slice (some ⟨F1, F2, none⟩) fl fc) ∧ w2.drew.cell? ⟨F1, F2 + d, none⟩ = some (iV pr)) := HS7.out
  have HDV := Lib.hid hdv
  rw [hdv]
  clear hdv v1 v2 v3 hsq hrl hxl hds
  have k9 : (0 : Int) ≤ (k : Int) := by omega
  have m1 : (k : Int) < (dl : Int) := by omega
  have m2 : (o : Int) < (el : Int) := by omega
  have m3 : (d : Int) < (fl : Int) := by omega
  have hp0 : ¬ pr < 0 := by have := HPR.out.1; omega
  have i1 : (0 : Int) ≤ (o : Int) := by omega
  have i2 : (o : Int) < (n.offs.length : Int) := by omega
  have i3 : (0 : Int) ≤ (d : Int) := by omega
  have i4 : (d : Int) < (n.offs.length : Int) := by omega
  clear t1 t2 t3
  go_wp2_with fail
  go_region_held3 (fun w' => w'.cell? ⟨X + 1, 1, none⟩ = some (iV o) ∧ w'.cell? ⟨X + 1, 2, none⟩ = some (iV d) ∧ w'.cell? ⟨X + 1, 3, none⟩ = some (iV k) ∧ w'.cell? ⟨D1, D2 + k, none⟩ = some (.slice (some ⟨E1, E2, none⟩) el ec) ∧ w'.cell? ⟨E1, E2 + o, none⟩ = some (.slice (some ⟨F1, F2, none⟩) fl fc) ∧ w'.cell? ⟨F1, F2 + d, none⟩ = some (iV pr)) (first | (with_reducible exact HS7d.out)) (fail)
  clear HS7 HS7d
  have HD4 := Lib.hid (HD3.out.below (b_drew (Below.refl _ _)))
  have HNP4 := Lib.hid (HNP3.out.below (b_drew (Below.refl _ _)))
  have HCX4 : Hid (w2.drew.heap[CB]? = some (.cells #[sV (clsAt n k).name, iV (clsAt n k).cut, iV (clsAt n k).deliver] 76 (0, 0))) := HCX3.out
  clear HD3 HNP3 HT3 HCX3
  generalize w2.drew = W3 at *
  have p2 : W3.cell? ⟨X + 1, 2, none⟩ = some (iV d) := cell_of_row _ _ 2 _ _ _ HD4.out.post
  go_wp2_with fail
  refine (calof_any X n d di _ _ _ HNP4.out (offAt_get hd) HDI.out.1 HDI.out.2.1).mono ?_
  rintro e w4 ⟨rfl, hb⟩
  have HD5 := Lib.hid (HD4.out.below hb)
  have HCC := Lib.hid ((HNP4.out.below hb).net.cal _ (List.mem_of_getElem? HDI.out.2.1))
  have HCX5 := Lib.hid ((hb.block _ (block_lt HCX4.out)).trans HCX4.out)
  clear hb HD4 HNP4 HCX4 p2
  have hin : acc ≤ cut ∧ cut ≤ acc + 90000 := firstR_in HCL.out.1 HCL.out.2.1 HCUT.out
  have hzz := calB_zone HDI.out.2.2
  obtain ⟨z1, z2, -⟩ := hzz
  have hda : dayR (dayOf (calAt n d) cut) = true := by unfold dayR dayOf; simp; omega
  have HDA := Lib.hid hda; clear hda
  have hdd : dayR dd = true := by
    have h3 := addN_in HADD.out
    have h4 := HPR.out
    unfold dayOf at h3
    unfold dayR
    simp
    omega
  have HDD := Lib.hid hdd; clear hdd
  generalize hCQ : calAt n d = C at *
  have HCQ := Lib.hid hCQ; clear hCQ
  have hx := heap_alloc_new w4 (.cells #[iV C.zone, .slice C.wA C.week.length C.wc, .slice C.hA C.hol.length C.hc] 58)
  have hba := ba w4 (.cells #[iV C.zone, .slice C.wA C.week.length C.wc, .slice C.hA C.hol.length C.hc] 58)
  have HX6 := Lib.hid hx
  have HD6 := Lib.hid (HD5.out.below hba)
  have HC6 := Lib.hid (HCC.out.below hba)
  have HCX6 := Lib.hid ((hba.block _ (block_lt HCX5.out)).trans HCX5.out)
  have k0 : (w4.alloc (.cells #[iV C.zone, .slice C.wA C.week.length C.wc, .slice C.hA C.hol.length C.hc] 58)).cell? ⟨w4.heap.size, 0, none⟩ = some (iV C.zone) := cell_of_row _ _ 0 _ _ _ hx
  have k1 : (w4.alloc (.cells #[iV C.zone, .slice C.wA C.week.length C.wc, .slice C.hA C.hol.length C.hc] 58)).cell? ⟨w4.heap.size, 1, none⟩ = some (.slice C.wA C.week.length C.wc) := cell_of_row _ _ 1 _ _ _ hx
  have k2 : (w4.alloc (.cells #[iV C.zone, .slice C.wA C.week.length C.wc, .slice C.hA C.hol.length C.hc] 58)).cell? ⟨w4.heap.size, 2, none⟩ = some (.slice C.hA C.hol.length C.hc) := cell_of_row _ _ 2 _ _ _ hx
  have HYX : Hid (X + 1 + 1 + 1 < w4.heap.size) := block_lt HD5.out.err
  clear hx hba HD5 HCC HCX5
  go_wp2_with fail
  generalize (w4.alloc (.cells #[iV C.zone, .slice C.wA C.week.length C.wc, .slice C.hA C.hol.length C.hc] 58)) = W4 at *
  generalize w4.heap.size = Y at *
  refine (local_any C cut _ HC6.out HDI.out.2.2 (by omega) (by omega)).mono ?_
  rintro e w5 ⟨rfl, hb⟩
  have HX7 := Lib.hid ((hb.block _ (block_lt HX6.out)).trans HX6.out)
  have HD7 := Lib.hid (HD6.out.below hb)
  have HC7 := Lib.hid (HC6.out.below hb)
  have HCX7 := Lib.hid ((hb.block _ (block_lt HCX6.out)).trans HCX6.out)
  clear hb HX6 HD6 HC6 HCX6 k0 k1 k2
  go_wp2_with fail
  have HSw : Hid (∀ w', Below w5.heap.size w5 w' → w'.cell? ⟨Y, 0, none⟩ = some (iV C.zone) ∧ w'.cell? ⟨Y, 1, none⟩ = some (.slice C.wA C.week.length C.wc) ∧ w'.cell? ⟨Y, 2, none⟩ = some (.slice C.hA C.hol.length C.hc) ∧ w'.cell? ⟨CB, 2, none⟩ = some (iV (clsAt n k).deliver)) := fun w' hb =>
    ⟨cell_of_row _ _ 0 _ _ _ ((hb.block _ (block_lt HX7.out)).trans HX7.out), cell_of_row _ _ 1 _ _ _ ((hb.block _ (block_lt HX7.out)).trans HX7.out), cell_of_row _ _ 2 _ _ _ ((hb.block _ (block_lt HX7.out)).trans HX7.out), cell_of_row _ _ 2 _ _ _ ((hb.block _ (block_lt HCX7.out)).trans HCX7.out)⟩
  have HCA : Hid (∀ W, CalIn W C → Calls Tryz.prog 56 #[calV C, iV (dayOf C cut), iV pr] W fun e w' => e = .returned (.tuple #[iV dd, iV 0]) ∧ Below W.heap.size W w') := fun W h => by
    have := addn_any C (dayOf C cut) pr.toNat W h HDI.out.2.2 HDA.out (by have := HPR.out; omega)
    rwa [HADD.out, show ((pr.toNat : Nat) : Int) = pr by have := HPR.out; omega] at this
  have HE1 : Hid ((X + 1 + 1 ≠ Y ∧ X + 1 + 1 ≠ CB) ∧ X + 1 + 1 + 1 ≠ Y ∧ X + 1 + 1 + 1 ≠ CB) := by
    have h1 := HYX.out
    have h2 := HCBX.out
    exact ⟨⟨by omega, by omega⟩, by omega, by omega⟩
  have HNE : Hid (∀ w' : World, ∀ v, (w'.setCell ⟨X + 1 + 1, 0, none⟩ v).cell? ⟨X + 1 + 1 + 1, 0, none⟩ = w'.cell? ⟨X + 1 + 1 + 1, 0, none⟩ ∧ (w'.setCell ⟨X + 1 + 1, 0, none⟩ v).frozen? ⟨X + 1 + 1 + 1, 0, none⟩ = w'.frozen? ⟨X + 1 + 1 + 1, 0, none⟩) := fun w' v => ⟨World.cell?_setCell_other _ _ _ _ (by simp), World.frozen?_setCell _ _ _ _⟩
  go_region_held3 (fun w' => w'.cell? ⟨Y, 0, none⟩ = some (iV C.zone) ∧ w'.cell? ⟨Y, 1, none⟩ = some (.slice C.wA C.week.length C.wc) ∧ w'.cell? ⟨Y, 2, none⟩ = some (.slice C.hA C.hol.length C.hc) ∧ w'.cell? ⟨CB, 2, none⟩ = some (iV (clsAt n k).deliver)) (first | (with_reducible exact HSw.out _ (b_drew (Below.refl _ _))) | (with_reducible exact HSw.out _ HB8.out) | (with_reducible exact HSw.out _ HB9.out) | (exact due_set HE1.out.1.1 HE1.out.1.2 (HSw.out _ HB9.out)) | (exact due_set HE1.out.2.1 HE1.out.2.2 (due_set HE1.out.1.1 HE1.out.1.2 (HSw.out _ HB9.out)))) (first
      | (go_at_call 56; refine (HCA.out _ (HC7.out.below (b_drew (Below.refl _ _)))).mono ?_; rintro e w8 ⟨rfl, hb⟩; have HB8 := Lib.hid (bdr hb); clear hb)
      | (go_at_call 54; refine (must_yes _ _).mono ?_; rintro e w4 ⟨rfl, rfl⟩)
      | (go_at_call 55; refine (time_any C dd _ _ (HC7.out.below HB8.out) HDI.out.2.2 HDD.out HCL.out.2.2.1 HCL.out.2.2.2).mono ?_; rintro e w9 ⟨rfl, hb⟩; have HB9 := Lib.hid (bt HB8.out hb); clear hb; have HD9 := Lib.hid (HD7.out.below HB9.out); have c6 : w9.cell? ⟨X + 1 + 1, 0, none⟩ = some (iV 0) := cell_of_row _ _ 0 _ _ _ HD9.out.res; have f6 : w9.frozen? ⟨X + 1 + 1, 0, none⟩ = false := frozen_row HD9.out.res 0; have c7 : w9.cell? ⟨X + 1 + 1 + 1, 0, none⟩ = some (iV 0) := cell_of_row _ _ 0 _ _ _ HD9.out.err; have f7 : w9.frozen? ⟨X + 1 + 1 + 1, 0, none⟩ = false := frozen_row HD9.out.err 0)
      | fail)
  go_wp2_with fail
  refine leaves_cons (f := 52) (args := #[.pointer (some ⟨X + 1 + 1, 0, none⟩), .pointer (some ⟨X + 1 + 1 + 1, 0, none⟩)]) (by simp) (by simp [go_sem]) ?_
  refine (due_idle (X + 1 + 1) (X + 1 + 1 + 1) _).mono ?_
  rintro e u' w'' ⟨rfl, rfl, rfl⟩
  have hD := HD9.out.set (iV (timeOf C dd (clsAt n k).deliver)) (iV 0)
  refine ⟨_, hD.out _ rfl rfl, by rw [HCQ.out], ?_⟩
  rw [HX.out]
  exact hD.bel
end Go.Proofs.YtjpabeoflhkfkaaGreatDoor
namespace Go.Proofs.YtjpabeoflhkfkaaGreatDoor
open Go.RowKit

theorem wr8 {N : Net} {fr till : Int} {A : Option Addr} {c : Nat} {nx : List NsC} {D : Option Addr} {dc : Nat} {ds : List DaC} {er : Int} {nums : List Int} (h : writeTop N fr till nx ds = (er, nums)) (W : World) (hn : NetIn W N) (hT : Tab W A nx) (hx : nx.length ≤ 1000000) (hD : DTab W D ds) (hd : ds.length ≤ 1000000) (hk : KW W) :
    Calls Tryz.prog 12 #[netV N, .agg #[iV fr, iV till, .slice A nx.length c, .slice D ds.length dc]] W fun e w' => ∃ B b, e = .returned (.tuple #[.agg #[.slice B nums.length b, iV (sealW (er, nums))], iV er]) ∧ Rd w' B (nums.map iV) ∧ Below W.heap.size W w' := by
  refine (write_any N fr till A c nx D dc ds W hn hT hx hD hd hk).mono ?_
  rintro e w' ⟨hb, B, b, rfl, hr, -⟩
  rw [h] at hr ⊢
  exact ⟨B, b, rfl, hr, hb⟩
/-- What the head has in hand. -/
structure H8 (w W : World) (Y : Nat) (N : Net) (C H : Option Addr) (nx : List NsC) (ds : List DaC) (m : Int) : Prop where
  bel : Below w.heap.size w W
  net : NetIn W N
  tab : Tab W C nx
  dtab : DTab W H ds
  kw : KW W
  box : W.heap[Y]? = some (netO N)
  plan : W.heap[Y + 1]? = some (planO 0 1 C 2 2 H 1 1)
  max : W.cell? ⟨1, 0, none⟩ = some (iV m)
theorem H8.below {w W W' : World} {Y : Nat} {N : Net} {C H : Option Addr} {nx : List NsC} {ds : List DaC} {m : Int} (h : H8 w W Y N C H nx ds m) (hb : Below W.heap.size W W') : H8 w W' Y N C H nx ds m :=
  ⟨bt h.bel hb, h.net.below hb, h.tab.below hb, h.dtab.below hb, h.kw.below hb, (hb.block _ (block_lt h.box)).trans h.box, (hb.block _ (block_lt h.plan)).trans h.plan, cell_keepW hb h.max⟩
theorem H8.six {w W : World} {Y : Nat} {N : Net} {C H : Option Addr} {nx : List NsC} {ds : List DaC} {m : Int} (h : H8 w W Y N C H nx ds m) : (W.cell? ⟨Y, 0, none⟩ = some (.slice N.calA N.cals.length N.calC) ∧ W.cell? ⟨Y, 1, none⟩ = some (.slice N.namA N.names.length N.namC) ∧ W.cell? ⟨Y, 2, none⟩ = some (.slice N.opA N.ops.length N.opC) ∧ W.cell? ⟨Y, 3, none⟩ = some (.slice N.offA N.offs.length N.offC) ∧ W.cell? ⟨Y, 4, none⟩ = some (.slice N.linA N.lins.length N.linC) ∧ W.cell? ⟨Y, 5, none⟩ = some (.slice N.clsA N.clss.length N.clsC)) ∧
    W.cell? ⟨Y + 1, 0, none⟩ = some (iV 0) ∧ W.cell? ⟨Y + 1, 1, none⟩ = some (iV 1) ∧ W.cell? ⟨Y + 1, 2, none⟩ = some (.slice C 2 2) ∧ W.cell? ⟨Y + 1, 3, none⟩ = some (.slice H 1 1) :=
  ⟨⟨cell_of_row _ _ 0 _ _ _ h.box, cell_of_row _ _ 1 _ _ _ h.box, cell_of_row _ _ 2 _ _ _ h.box, cell_of_row _ _ 3 _ _ _ h.box, cell_of_row _ _ 4 _ _ _ h.box, cell_of_row _ _ 5 _ _ _ h.box⟩,
   cell_of_row _ _ 0 _ _ _ h.plan, cell_of_row _ _ 1 _ _ _ h.plan, cell_of_row _ _ 2 _ _ _ h.plan, cell_of_row _ _ 3 _ _ _ h.plan⟩
/-- The example with a later cut-off. -/
def lateN (N : Net) (a : Option Addr) : Net := { N with clss := [⟨[107], 700, 720⟩], clsA := a, clsC := 1 }
theorem late_in {W : World} {N : Net} {a : Nat} (h : NetIn W N) (ha : W.heap[a]? = some (.cells #[sV [107], iV 700, iV 720] 76 (0, 0))) : NetIn W (lateN N (some ⟨a, 0, none⟩)) :=
  ⟨h.cals, h.cal, h.names, h.name, h.ops, h.op, h.offs, h.off, h.lins, h.lin, rd_block ha, fun k hk => by
    obtain rfl : k = ⟨[107], 700, 720⟩ := by simpa [lateN] using hk
    exact ⟨by decide, show I64 700 from i64_small (by decide) (by decide), show I64 720 from i64_small (by decide) (by decide)⟩, h.lens.1, h.lens.2.1, h.lens.2.2.1, h.lens.2.2.2.1, h.lens.2.2.2.2.1, show 1 ≤ maxLen by decide⟩
section
variable (wA a1 a2 a3 a4 a5 a6 A B E F G H : Option Addr) (W : World)
theorem ex8_due (hn : NetIn W (exN 300 wA a1 a2 a3 a4 a5 a6)) (hT : DTab W H (exDs E F G 0 0 0 0)) (hk : KW W) :
    Calls Tryz.prog 19 #[netV (exN 300 wA a1 a2 a3 a4 a5 a6), .slice H 1 1, postV [] 0 1 0 300] W fun e w' => e = .returned (.tuple #[iV 720, iV 0]) ∧ Below W.heap.size W w' := by
  have := due_yes (exN 300 wA a1 a2 a3 a4 a5 a6) H 1 (exDs E F G 0 0 0 0) [] 0 1 0 300 300 0 0 W hn hT ⟨rfl, fun x hx => by
    obtain rfl : x = ⟨exNx E F 0 0 0 0, G, 2⟩ := by simpa [exDs] using hx
    refine ⟨rfl, fun r hr => ?_⟩
    have : r = ⟨[0, 0], E, 2⟩ ∨ r = ⟨[0, 0], F, 2⟩ := by simpa [exNx] using hr
    rcases this with rfl | rfl <;> rfl⟩ hk (ex8_sound 300 wA a1 a2 a3 a4 a5 a6 (by kernel_rfl)) (show 0 < 2 by omega) (show 1 < 2 by omega) (show 0 < 1 by omega) (by omega) (by omega) (by kernel_rfl) ⟨_, _, rfl, rfl, rfl⟩ ⟨by omega, by omega⟩ (by kernel_rfl)
  have e : timeOf (calAt (exN 300 wA a1 a2 a3 a4 a5 a6) 1) 0 (clsAt (exN 300 wA a1 a2 a3 a4 a5 a6) 0).deliver = 720 := by kernel_rfl
  rw [e] at this
  exact this
end
/-- The second table of promises. -/
structure Dr8 (W : World) (Z : Nat) : Prop where
  r0 : W.heap[Z]? = some (.cells #[iV (-1), iV 1] 3 (0, 0))
  r1 : W.heap[Z + 1]? = some (.cells #[iV (-1), iV (-1)] 3 (0, 0))
  r2 : W.heap[Z + 1 + 1]? = some (.cells #[.slice (some ⟨Z, 0, none⟩) 2 2, .slice (some ⟨Z + 1, 0, none⟩) 2 2] 25 (0, 0))
  r3 : W.heap[Z + 1 + 1 + 1]? = some (.cells #[.slice (some ⟨Z + 1 + 1, 0, none⟩) 2 2] 37 (0, 0))
theorem Dr8.below {W W' : World} {Z : Nat} (h : Dr8 W Z) (hb : Below W.heap.size W W') : Dr8 W' Z :=
  ⟨(hb.block _ (block_lt h.r0)).trans h.r0, (hb.block _ (block_lt h.r1)).trans h.r1, (hb.block _ (block_lt h.r2)).trans h.r2, (hb.block _ (block_lt h.r3)).trans h.r3⟩
theorem Dr8.tab {W : World} {Z : Nat} (h : Dr8 W Z) : DTab W (some ⟨Z + 1 + 1 + 1, 0, none⟩) (exDs (some ⟨Z, 0, none⟩) (some ⟨Z + 1, 0, none⟩) (some ⟨Z + 1 + 1, 0, none⟩) (-1) 1 (-1) (-1)) :=
  dtab_one h.r0 h.r1 h.r2 h.r3 ⟨i64_small (by decide) (by decide), i64_small (by decide) (by decide), i64_small (by decide) (by decide), i64_small (by decide) (by decide)⟩
set_option maxHeartbeats 16000000 in
set_option maxRecDepth 100000 in
theorem head8_any (w : World) (m : Int) (hk : KW w) (hm : w.cell? ⟨1, 0, none⟩ = some (iV m)) :
    Calls Tryz.prog 8 #[] w fun e w' => e = .returned (.bool true) ∧ Below w.heap.size w w' := by
  have HK0 := Lib.hid hk; clear hk
  have HM0 := Lib.hid hm; clear hm
  go_enter Tryz.func8, Tryz.ntmps8
  go_wp2_with fail
  refine (example8_any _).mono ?_
  rintro e w1 ⟨wA, a1, a2, a3, a4, a5, a6, A, B, C, E, F, G, H, rfl, hn, hT, hD, hb⟩
  have HWA : Hid (writeTop (exN 300 wA a1 a2 a3 a4 a5 a6) 0 1 (exNx A B (-1) 0 1 (-1)) (exDs E F G 0 0 0 0) = (0, [0, 1, 2, 1, 0, 1, 2, 0, 1, 1, 1, 1, 2, 2])) := ex8_a wA a1 a2 a3 a4 a5 a6 A B E F G
  have HWB : Hid (∀ E F G, writeTop (exN 300 wA a1 a2 a3 a4 a5 a6) 0 1 (exNx A B (-1) 0 1 (-1)) (exDs E F G (-1) 1 (-1) (-1)) = (0, [0, 1, 2, 1, 0, 1, 2, 0, 0, 2, 0, 0, 2])) := fun E F G => ex8_b wA a1 a2 a3 a4 a5 a6 A B E F G
  have HWC : Hid (∀ E F G, writeTop (exN 300 wA a1 a2 a3 a4 a5 a6) 0 61 (exNx A B (-1) 0 1 (-1)) (exDs E F G (-1) 1 (-1) (-1)) = (1, [])) := fun E F G => ex8_c wA a1 a2 a3 a4 a5 a6 A B E F G
  have HWD : Hid (∀ q, writeTop (lateN (exN 300 wA a1 a2 a3 a4 a5 a6) q) 0 1 (exNx A B (-1) 0 1 (-1)) (exDs E F G 0 0 0 0) = (190, [])) := fun q => ex8_d wA a1 a2 a3 a4 a5 q A B E F G
  have HDU : Hid (∀ W, NetIn W (exN 300 wA a1 a2 a3 a4 a5 a6) → DTab W H (exDs E F G 0 0 0 0) → KW W → Calls Tryz.prog 19 #[netV (exN 300 wA a1 a2 a3 a4 a5 a6), .slice H 1 1, postV [] 0 1 0 300] W fun e w' => e = .returned (.tuple #[iV 720, iV 0]) ∧ Below W.heap.size W w') := fun W h1 h2 h3 => ex8_due wA a1 a2 a3 a4 a5 a6 E F G H W h1 h2 h3
  have HLC : Hid ((exN 300 wA a1 a2 a3 a4 a5 a6).cals[0]? = some (exCal8 wA)) := rfl
  generalize hNN : exN 300 wA a1 a2 a3 a4 a5 a6 = N at *
  have HNN := Lib.hid hNN; clear hNN
  have hba : Below w1.heap.size w1 ((w1.alloc (netO N)).alloc (planO 0 1 C 2 2 H 1 1)) := ((Below.refl _ w1).alloc (Nat.le_refl _) _).alloc (by simp) _
  have HD : Hid (H8 w ((w1.alloc (netO N)).alloc (planO 0 1 C 2 2 H 1 1)) w1.heap.size N C H (exNx A B (-1) 0 1 (-1)) (exDs E F G 0 0 0 0) m) := by
    have h1 := heap_alloc_new (w1.alloc (netO N)) (planO 0 1 C 2 2 H 1 1)
    rw [World.size_alloc] at h1
    exact ⟨bt hb hba, hn.below hba, hT.below hba, hD.below hba, (HK0.out.below hb).below hba, (Below.heap_alloc _ _ _ (by simp)).trans (heap_alloc_new _ _), h1, cell_keepW hba (cell_keepW hb HM0.out)⟩
  clear hn hT hD hb hba HK0 HM0
  go_upto_region 2 with fail
  change Code.wp _ _ _ _ ((w1.alloc (netO N)).alloc (planO 0 1 C 2 2 H 1 1))
  generalize ((w1.alloc (netO N)).alloc (planO 0 1 C 2 2 H 1 1)) = W0 at *
  generalize w1.heap.size = Y at *
  obtain ⟨⟨n0, n1, n2, n3, n4, n5⟩, p0, p1, p2, p3⟩ := HD.out.six
  go_wp2_with fail
  refine (wr8 HWA.out _ HD.out.net HD.out.tab (show 2 ≤ 1000000 by omega) HD.out.dtab (show 1 ≤ 1000000 by omega) HD.out.kw).mono ?_
  rintro e w2 ⟨A1, c1, rfl, hr, hb⟩
  have HD2 := Lib.hid (HD.out.below hb)
  have HR1 := Lib.hid hr
  clear hr hb HD n0 n1 n2 n3 n4 n5 p0 p1 p2 p3
  generalize hs1 : sealW (0, [0, 1, 2, 1, 0, 1, 2, 0, 1, 1, 1, 1, 2, 2]) = s1 at *
  have HS1 := Lib.hid hs1; clear hs1
  go_upto_region 3 with fail
  have hc := heap_alloc_new w2 (.cells #[.slice A1 14 c1, iV s1] 43)
  have hb := ba w2 (.cells #[.slice A1 14 c1, iV s1] 43)
  have HT3 := Lib.hid hc
  have HD3 := Lib.hid (HD2.out.below hb)
  have HR13 := Lib.hid (HR1.out.below hb)
  clear hc hb HD2 HR1
  change Code.wp _ _ _ _ (w2.alloc (.cells #[.slice A1 14 c1, iV s1] 43))
  generalize (w2.alloc (.cells #[.slice A1 14 c1, iV s1] 43)) = W3 at *
  generalize w2.heap.size = X3 at *
  obtain ⟨-, p0, p1, p2, p3⟩ := HD3.out.six
  go_upto_region 4 with fail
  have hc := heap_alloc_new W3 (planO 0 1 C 2 2 H 1 1)
  have hb := ba W3 (planO 0 1 C 2 2 H 1 1)
  have HT5 := Lib.hid hc
  have HB34 := Lib.hid hb
  have HQ4 : Hid (W3.heap.size < (W3.alloc (planO 0 1 C 2 2 H 1 1)).heap.size) := block_lt hc
  clear hc hb p0 p1 p2 p3
  change Code.wp _ _ _ _ (W3.alloc (planO 0 1 C 2 2 H 1 1))
  generalize (W3.alloc (planO 0 1 C 2 2 H 1 1)) = W4 at *
  have hg := allocs_get [.cells #[iV (-1), iV 1] 3, .cells #[iV (-1), iV (-1)] 3, .cells #[.slice (some ⟨W4.heap.size, 0, none⟩) 2 2, .slice (some ⟨W4.heap.size + 1, 0, none⟩) 2 2] 25, .cells #[.slice (some ⟨W4.heap.size + 1 + 1, 0, none⟩) 2 2] 37] W4
  have hb : Below W4.heap.size W4 ((((W4.alloc (.cells #[iV (-1), iV 1] 3)).alloc (.cells #[iV (-1), iV (-1)] 3)).alloc (.cells #[.slice (some ⟨W4.heap.size, 0, none⟩) 2 2, .slice (some ⟨W4.heap.size + 1, 0, none⟩) 2 2] 25)).alloc (.cells #[.slice (some ⟨W4.heap.size + 1 + 1, 0, none⟩) 2 2] 37)) := allocs_below [.cells #[iV (-1), iV 1] 3, .cells #[iV (-1), iV (-1)] 3, .cells #[.slice (some ⟨W4.heap.size, 0, none⟩) 2 2, .slice (some ⟨W4.heap.size + 1, 0, none⟩) 2 2] 25, .cells #[.slice (some ⟨W4.heap.size + 1 + 1, 0, none⟩) 2 2] 37] W4
  have g0 : ((((W4.alloc (.cells #[iV (-1), iV 1] 3)).alloc (.cells #[iV (-1), iV (-1)] 3)).alloc (.cells #[.slice (some ⟨W4.heap.size, 0, none⟩) 2 2, .slice (some ⟨W4.heap.size + 1, 0, none⟩) 2 2] 25)).alloc (.cells #[.slice (some ⟨W4.heap.size + 1 + 1, 0, none⟩) 2 2] 37)).heap[W4.heap.size]? = some _ := hg 0 _ rfl
  have g1 : ((((W4.alloc (.cells #[iV (-1), iV 1] 3)).alloc (.cells #[iV (-1), iV (-1)] 3)).alloc (.cells #[.slice (some ⟨W4.heap.size, 0, none⟩) 2 2, .slice (some ⟨W4.heap.size + 1, 0, none⟩) 2 2] 25)).alloc (.cells #[.slice (some ⟨W4.heap.size + 1 + 1, 0, none⟩) 2 2] 37)).heap[W4.heap.size + 1]? = some _ := hg 1 _ rfl
  have g2 : ((((W4.alloc (.cells #[iV (-1), iV 1] 3)).alloc (.cells #[iV (-1), iV (-1)] 3)).alloc (.cells #[.slice (some ⟨W4.heap.size, 0, none⟩) 2 2, .slice (some ⟨W4.heap.size + 1, 0, none⟩) 2 2] 25)).alloc (.cells #[.slice (some ⟨W4.heap.size + 1 + 1, 0, none⟩) 2 2] 37)).heap[W4.heap.size + 1 + 1]? = some _ := hg 2 _ rfl
  have g3 : ((((W4.alloc (.cells #[iV (-1), iV 1] 3)).alloc (.cells #[iV (-1), iV (-1)] 3)).alloc (.cells #[.slice (some ⟨W4.heap.size, 0, none⟩) 2 2, .slice (some ⟨W4.heap.size + 1, 0, none⟩) 2 2] 25)).alloc (.cells #[.slice (some ⟨W4.heap.size + 1 + 1, 0, none⟩) 2 2] 37)).heap[W4.heap.size + 1 + 1 + 1]? = some _ := hg 3 _ rfl
  have hq4 := HQ4.out
  have hdr : Dr8 (((((W4.alloc (.cells #[iV (-1), iV 1] 3)).alloc (.cells #[iV (-1), iV (-1)] 3)).alloc (.cells #[.slice (some ⟨W4.heap.size, 0, none⟩) 2 2, .slice (some ⟨W4.heap.size + 1, 0, none⟩) 2 2] 25)).alloc (.cells #[.slice (some ⟨W4.heap.size + 1 + 1, 0, none⟩) 2 2] 37)).setCell ⟨W3.heap.size, 3, none⟩ (.slice (some ⟨W4.heap.size + 1 + 1 + 1, 0, none⟩) 1 1)) W4.heap.size := ⟨row_other g0 (by omega) _ _, row_other g1 (by omega) _ _, row_other g2 (by omega) _ _, row_other g3 (by omega) _ _⟩
  have HDR := Lib.hid hdr
  have h5 := (hb.block _ (block_lt HT5.out)).trans HT5.out
  have q3 : ((((W4.alloc (.cells #[iV (-1), iV 1] 3)).alloc (.cells #[iV (-1), iV (-1)] 3)).alloc (.cells #[.slice (some ⟨W4.heap.size, 0, none⟩) 2 2, .slice (some ⟨W4.heap.size + 1, 0, none⟩) 2 2] 25)).alloc (.cells #[.slice (some ⟨W4.heap.size + 1 + 1, 0, none⟩) 2 2] 37)).cell? ⟨W3.heap.size, 3, none⟩ = some (.slice H 1 1) := cell_of_row _ _ 3 _ _ _ h5
  have f3 : ((((W4.alloc (.cells #[iV (-1), iV 1] 3)).alloc (.cells #[iV (-1), iV (-1)] 3)).alloc (.cells #[.slice (some ⟨W4.heap.size, 0, none⟩) 2 2, .slice (some ⟨W4.heap.size + 1, 0, none⟩) 2 2] 25)).alloc (.cells #[.slice (some ⟨W4.heap.size + 1 + 1, 0, none⟩) 2 2] 37)).frozen? ⟨W3.heap.size, 3, none⟩ = false := frozen_row h5 3
  have hb35 : Below W3.heap.size W3 (((((W4.alloc (.cells #[iV (-1), iV 1] 3)).alloc (.cells #[iV (-1), iV (-1)] 3)).alloc (.cells #[.slice (some ⟨W4.heap.size, 0, none⟩) 2 2, .slice (some ⟨W4.heap.size + 1, 0, none⟩) 2 2] 25)).alloc (.cells #[.slice (some ⟨W4.heap.size + 1 + 1, 0, none⟩) 2 2] 37)).setCell ⟨W3.heap.size, 3, none⟩ (.slice (some ⟨W4.heap.size + 1 + 1 + 1, 0, none⟩) 1 1)) := (bt HB34.out hb).setCell (Nat.le_refl _) _
  have HT55 : Hid ((((((W4.alloc (.cells #[iV (-1), iV 1] 3)).alloc (.cells #[iV (-1), iV (-1)] 3)).alloc (.cells #[.slice (some ⟨W4.heap.size, 0, none⟩) 2 2, .slice (some ⟨W4.heap.size + 1, 0, none⟩) 2 2] 25)).alloc (.cells #[.slice (some ⟨W4.heap.size + 1 + 1, 0, none⟩) 2 2] 37)).setCell ⟨W3.heap.size, 3, none⟩ (.slice (some ⟨W4.heap.size + 1 + 1 + 1, 0, none⟩) 1 1)).heap[W3.heap.size]? = some (planO 0 1 C 2 2 (some ⟨W4.heap.size + 1 + 1 + 1, 0, none⟩) 1 1)) := row_set h5 3 _
  have HB35 := Lib.hid hb35
  have HZ4 := Lib.hid hq4
  clear hg hb g0 g1 g2 g3 h5 HT5 HB34 HQ4 hb35 hdr
  go_upto_region 5 with fail
  clear q3 f3
  change Code.wp _ _ _ _ (World.setCell ((((W4.alloc (.cells #[iV (-1), iV 1] 3)).alloc (.cells #[iV (-1), iV (-1)] 3)).alloc (.cells #[.slice (some ⟨W4.heap.size, 0, none⟩) 2 2, .slice (some ⟨W4.heap.size + 1, 0, none⟩) 2 2] 25)).alloc (.cells #[.slice (some ⟨W4.heap.size + 1 + 1, 0, none⟩) 2 2] 37)) ⟨W3.heap.size, 3, none⟩ (.slice (some ⟨W4.heap.size + 1 + 1 + 1, 0, none⟩) 1 1))
  generalize (World.setCell ((((W4.alloc (.cells #[iV (-1), iV 1] 3)).alloc (.cells #[iV (-1), iV (-1)] 3)).alloc (.cells #[.slice (some ⟨W4.heap.size, 0, none⟩) 2 2, .slice (some ⟨W4.heap.size + 1, 0, none⟩) 2 2] 25)).alloc (.cells #[.slice (some ⟨W4.heap.size + 1 + 1, 0, none⟩) 2 2] 37)) ⟨W3.heap.size, 3, none⟩ (.slice (some ⟨W4.heap.size + 1 + 1 + 1, 0, none⟩) 1 1)) = W5 at *
  generalize W4.heap.size = Z4 at *
  clear hq4
  obtain ⟨⟨n0, n1, n2, n3, n4, n5⟩, -⟩ := (HD3.out.below HB35.out).six
  have t0 : W5.cell? ⟨W3.heap.size, 0, none⟩ = some (iV 0) := cell_of_row _ _ 0 _ _ _ HT55.out
  have t1 : W5.cell? ⟨W3.heap.size, 1, none⟩ = some (iV 1) := cell_of_row _ _ 1 _ _ _ HT55.out
  have t2 : W5.cell? ⟨W3.heap.size, 2, none⟩ = some (.slice C 2 2) := cell_of_row _ _ 2 _ _ _ HT55.out
  have t3 : W5.cell? ⟨W3.heap.size, 3, none⟩ = some (.slice (some ⟨Z4 + 1 + 1 + 1, 0, none⟩) 1 1) := cell_of_row _ _ 3 _ _ _ HT55.out
  go_wp2_with fail
  refine (wr8 (HWB.out _ _ _) _ (HD3.out.below HB35.out).net (HD3.out.below HB35.out).tab (show 2 ≤ 1000000 by omega) HDR.out.tab (show 1 ≤ 1000000 by omega) (HD3.out.below HB35.out).kw).mono ?_
  rintro e w6 ⟨A2, c2, rfl, hr, hb⟩
  have HB36 := Lib.hid (HB35.out.trans (hb.mono HB35.out.size))
  have HT56 := Lib.hid ((hb.block _ (block_lt HT55.out)).trans HT55.out)
  have HDR6 := Lib.hid (HDR.out.below hb)
  have HR2 := Lib.hid hr
  clear hr hb HB35 HT55 HDR n0 n1 n2 n3 n4 n5 t0 t1 t2 t3
  generalize sealW (0, [0, 1, 2, 1, 0, 1, 2, 0, 0, 2, 0, 0, 2]) = s2 at *
  go_upto_region 6 with fail
  have hc := heap_alloc_new w6 (.cells #[.slice A2 13 c2, iV s2] 43)
  have hb := ba w6 (.cells #[.slice A2 13 c2, iV s2] 43)
  have HT6 := Lib.hid hc
  have HB37 := Lib.hid (HB36.out.trans (hb.mono HB36.out.size))
  have HR27 := Lib.hid (HR2.out.below hb)
  have HT57 := Lib.hid ((hb.block _ (block_lt HT56.out)).trans HT56.out)
  have HDR7 := Lib.hid (HDR6.out.below hb)
  have HX6 : Hid (W3.heap.size < w6.heap.size) := block_lt HT56.out
  clear hc hb HR2 HT56 HDR6 HB36
  change Code.wp _ _ _ _ (w6.alloc (.cells #[.slice A2 13 c2, iV s2] 43))
  generalize (w6.alloc (.cells #[.slice A2 13 c2, iV s2] 43)) = W7 at *
  generalize w6.heap.size = X6 at *
  have q1 : W7.cell? ⟨W3.heap.size, 1, none⟩ = some (iV 1) := cell_of_row _ _ 1 _ _ _ HT57.out
  have f1 := frozen_row HT57.out 1
  have hb7 : Below W3.heap.size W3 (W7.setCell ⟨W3.heap.size, 1, none⟩ (iV 61)) := HB37.out.setCell (Nat.le_refl _) _
  have HD8 := Lib.hid (HD3.out.below hb7)
  have HR18 := Lib.hid (HR13.out.below hb7)
  have HT38 := Lib.hid ((hb7.block _ (block_lt HT3.out)).trans HT3.out)
  have HDR8 : Hid (Dr8 (W7.setCell ⟨W3.heap.size, 1, none⟩ (iV 61)) Z4) := by
    have h1 := HZ4.out
    have h2 := HDR7.out
    exact ⟨row_other h2.r0 (by omega) _ _, row_other h2.r1 (by omega) _ _, row_other h2.r2 (by omega) _ _, row_other h2.r3 (by omega) _ _⟩
  have HT68 : Hid ((W7.setCell ⟨W3.heap.size, 1, none⟩ (iV 61)).heap[X6]? = some (.cells #[.slice A2 13 c2, iV s2] 43 (0, 0))) := row_other HT6.out (by have := HX6.out; omega) _ _
  have HR28 : Hid (Rd (W7.setCell ⟨W3.heap.size, 1, none⟩ (iV 61)) A2 ([0, 1, 2, 1, 0, 1, 2, 0, 0, 2, 0, 0, 2].map iV)) := HR27.out.same (by simp) (fun a ha _ => Below.heap_setCell _ _ _ _ (by
    intro e
    obtain ⟨b, o, hA, -, hcell⟩ := HR27.out.get (i := 0) (by decide)
    rw [ha] at hA
    cases hA
    have h12 := hcell 12 (iV 2) rfl
    have e' : b = W3.heap.size := e
    rw [e', cell_of_row _ _ _ _ _ _ HT57.out, Array.getElem?_eq_none (by simp <;> omega)] at h12
    cases h12))
  have HT58 : Hid ((W7.setCell ⟨W3.heap.size, 1, none⟩ (iV 61)).heap[W3.heap.size]? = some (planO 0 61 C 2 2 (some ⟨Z4 + 1 + 1 + 1, 0, none⟩) 1 1)) := row_set HT57.out 1 _
  clear hb7 HD3 HR13 HT3 HB37 HDR7 HR27 HT57 HT6
  go_upto_region 7 with fail
  clear q1 f1
  change Code.wp _ _ _ _ (W7.setCell ⟨W3.heap.size, 1, none⟩ (iV 61))
  generalize (W7.setCell ⟨W3.heap.size, 1, none⟩ (iV 61)) = W8 at *
  generalize W3.heap.size = X5 at *
  obtain ⟨⟨n0, n1, n2, n3, n4, n5⟩, -⟩ := HD8.out.six
  have t0 : W8.cell? ⟨X5, 0, none⟩ = some (iV 0) := cell_of_row _ _ 0 _ _ _ HT58.out
  have t1 : W8.cell? ⟨X5, 1, none⟩ = some (iV 61) := cell_of_row _ _ 1 _ _ _ HT58.out
  have t2 : W8.cell? ⟨X5, 2, none⟩ = some (.slice C 2 2) := cell_of_row _ _ 2 _ _ _ HT58.out
  have t3 : W8.cell? ⟨X5, 3, none⟩ = some (.slice (some ⟨Z4 + 1 + 1 + 1, 0, none⟩) 1 1) := cell_of_row _ _ 3 _ _ _ HT58.out
  go_wp2_with fail
  refine (wr8 (HWC.out _ _ _) _ HD8.out.net HD8.out.tab (show 2 ≤ 1000000 by omega) HDR8.out.tab (show 1 ≤ 1000000 by omega) HD8.out.kw).mono ?_
  rintro e w9 ⟨A3, c3, rfl, -, hb⟩
  have HD9 := Lib.hid (HD8.out.below hb)
  have HR19 := Lib.hid (HR18.out.below hb)
  have HR29 := Lib.hid (HR28.out.below hb)
  have HT39 := Lib.hid ((hb.block _ (block_lt HT38.out)).trans HT38.out)
  have HT69 := Lib.hid ((hb.block _ (block_lt HT68.out)).trans HT68.out)
  clear hb HD8 HR18 HR28 HT38 HT68 HDR8 HT58 n0 n1 n2 n3 n4 n5 t0 t1 t2 t3
  generalize sealW (1, []) = s3 at *
  go_upto_region 8 with fail
  have hb := ba w9 (.cells #[.slice A3 ([] : List Int).length c3, iV s3] 43)
  have HDa := Lib.hid (HD9.out.below hb)
  have HR1a := Lib.hid (HR19.out.below hb)
  have HR2a := Lib.hid (HR29.out.below hb)
  have HT3a := Lib.hid ((hb.block _ (block_lt HT39.out)).trans HT39.out)
  have HT6a := Lib.hid ((hb.block _ (block_lt HT69.out)).trans HT69.out)
  clear hb HD9 HR19 HR29 HT39 HT69
  change Code.wp _ _ _ _ (w9.alloc (.cells #[.slice A3 ([] : List Int).length c3, iV s3] 43))
  generalize (w9.alloc (.cells #[.slice A3 ([] : List Int).length c3, iV s3] 43)) = Wa at *
  generalize w9.heap.size = X8 at *
  go_wp2_with fail
  refine (parse_27 _ m HDa.out.max).mono ?_
  rintro e wb ⟨A4, c4, rfl, hr, hb⟩
  have HDb := Lib.hid (HDa.out.below hb)
  have HR1b := Lib.hid (HR1a.out.below hb)
  have HR2b := Lib.hid (HR2a.out.below hb)
  have HT3b := Lib.hid ((hb.block _ (block_lt HT3a.out)).trans HT3a.out)
  have HT6b := Lib.hid ((hb.block _ (block_lt HT6a.out)).trans HT6a.out)
  have HR4b := Lib.hid hr
  clear hb hr HDa HR1a HR2a HT3a HT6a
  go_upto_region 9 with fail
  have hb := ba wb (.cells #[.slice A4 1 c4, iV 27] 43)
  have HTxc := Lib.hid (heap_alloc_new wb (.cells #[.slice A4 1 c4, iV 27] 43))
  have HDc := Lib.hid (HDb.out.below hb)
  have HR1c := Lib.hid (HR1b.out.below hb)
  have HR2c := Lib.hid (HR2b.out.below hb)
  have HT3c := Lib.hid ((hb.block _ (block_lt HT3b.out)).trans HT3b.out)
  have HT6c := Lib.hid ((hb.block _ (block_lt HT6b.out)).trans HT6b.out)
  have HR4c := Lib.hid (HR4b.out.below hb)
  clear hb HDb HR1b HR2b HT3b HT6b HR4b
  change Code.wp _ _ _ _ (wb.alloc (.cells #[.slice A4 1 c4, iV 27] 43))
  generalize (wb.alloc (.cells #[.slice A4 1 c4, iV 27] 43)) = Wc at *
  generalize wb.heap.size = Xa at *
  go_wp2_with fail
  refine (parse_none _ m HDc.out.max).mono ?_
  rintro e wd ⟨rfl, hb⟩
  have HDd := Lib.hid (HDc.out.below hb)
  have HR1d := Lib.hid (HR1c.out.below hb)
  have HR2d := Lib.hid (HR2c.out.below hb)
  have HT3d := Lib.hid ((hb.block _ (block_lt HT3c.out)).trans HT3c.out)
  have HT6d := Lib.hid ((hb.block _ (block_lt HT6c.out)).trans HT6c.out)
  have HTxd := Lib.hid ((hb.block _ (block_lt HTxc.out)).trans HTxc.out)
  have HR4d := Lib.hid (HR4c.out.below hb)
  clear hb HDc HR1c HR2c HT3c HT6c HR4c HTxc
  go_upto_region 10 with fail
  have hb := ba wd (.cells #[.slice none 0 0, iV 0] 43)
  have HDe := Lib.hid (HDd.out.below hb)
  have HR1e := Lib.hid (HR1d.out.below hb)
  have HR2e := Lib.hid (HR2d.out.below hb)
  have HT3e := Lib.hid ((hb.block _ (block_lt HT3d.out)).trans HT3d.out)
  have HT6e := Lib.hid ((hb.block _ (block_lt HT6d.out)).trans HT6d.out)
  have HTxe := Lib.hid ((hb.block _ (block_lt HTxd.out)).trans HTxd.out)
  have HR4e := Lib.hid (HR4d.out.below hb)
  clear hb HDd HR1d HR2d HT3d HT6d HR4d HTxd
  change Code.wp _ _ _ _ (wd.alloc (.cells #[.slice none 0 0, iV 0] 43))
  generalize (wd.alloc (.cells #[.slice none 0 0, iV 0] 43)) = We at *
  generalize wd.heap.size = Xc at *
  obtain ⟨⟨n0, n1, n2, n3, n4, n5⟩, -⟩ := HDe.out.six
  go_upto_region 12 with fail
  change Code.wp _ _ _ _ ((We.alloc (netO (lateN N (some ⟨We.heap.size + 1, 0, none⟩)))).alloc (.cells #[sV [107], iV 700, iV 720] 76))
  have hb : Below We.heap.size We ((We.alloc (netO (lateN N (some ⟨We.heap.size + 1, 0, none⟩)))).alloc (.cells #[sV [107], iV 700, iV 720] 76)) := ((Below.refl _ We).alloc (Nat.le_refl _) _).alloc (by simp) _
  have hcl := heap_alloc_new (We.alloc (netO (lateN N (some ⟨We.heap.size + 1, 0, none⟩)))) (.cells #[sV [107], iV 700, iV 720] 76)
  rw [World.size_alloc] at hcl
  have hbx : ((We.alloc (netO (lateN N (some ⟨We.heap.size + 1, 0, none⟩)))).alloc (.cells #[sV [107], iV 700, iV 720] 76)).heap[We.heap.size]? = some (netO (lateN N (some ⟨We.heap.size + 1, 0, none⟩))) := (Below.heap_alloc _ _ _ (by simp)).trans (heap_alloc_new _ _)
  have HCL := Lib.hid hcl
  have HBX := Lib.hid hbx
  clear hcl hbx n0 n1 n2 n3 n4 n5
  have HDf := Lib.hid (HDe.out.below hb)
  have HR1f := Lib.hid (HR1e.out.below hb)
  have HR2f := Lib.hid (HR2e.out.below hb)
  have HT3f := Lib.hid ((hb.block _ (block_lt HT3e.out)).trans HT3e.out)
  have HT6f := Lib.hid ((hb.block _ (block_lt HT6e.out)).trans HT6e.out)
  have HTxf := Lib.hid ((hb.block _ (block_lt HTxe.out)).trans HTxe.out)
  have HR4f := Lib.hid (HR4e.out.below hb)
  clear hb HDe HR1e HR2e HT3e HT6e HTxe HR4e
  generalize ((We.alloc (netO (lateN N (some ⟨We.heap.size + 1, 0, none⟩)))).alloc (.cells #[sV [107], iV 700, iV 720] 76)) = Wf at *
  generalize We.heap.size = Xe at *
  have n0 : Wf.cell? ⟨Xe, 0, none⟩ = some (.slice N.calA N.cals.length N.calC) := cell_of_row _ _ 0 _ _ _ HBX.out
  have n1 : Wf.cell? ⟨Xe, 1, none⟩ = some (.slice N.namA N.names.length N.namC) := cell_of_row _ _ 1 _ _ _ HBX.out
  have n2 : Wf.cell? ⟨Xe, 2, none⟩ = some (.slice N.opA N.ops.length N.opC) := cell_of_row _ _ 2 _ _ _ HBX.out
  have n3 : Wf.cell? ⟨Xe, 3, none⟩ = some (.slice N.offA N.offs.length N.offC) := cell_of_row _ _ 3 _ _ _ HBX.out
  have n4 : Wf.cell? ⟨Xe, 4, none⟩ = some (.slice N.linA N.lins.length N.linC) := cell_of_row _ _ 4 _ _ _ HBX.out
  have n5 : Wf.cell? ⟨Xe, 5, none⟩ = some (.slice (some ⟨Xe + 1, 0, none⟩) 1 1) := cell_of_row _ _ 5 _ _ _ HBX.out
  obtain ⟨-, p0, p1, p2, p3⟩ := HDf.out.six
  go_wp2_with fail
  refine (wr8 (HWD.out (some ⟨Xe + 1, 0, none⟩)) _ (late_in HDf.out.net HCL.out) HDf.out.tab (show 2 ≤ 1000000 by omega) HDf.out.dtab (show 1 ≤ 1000000 by omega) HDf.out.kw).mono ?_
  rintro e wg ⟨A5, c5, rfl, -, hb⟩
  clear n0 n1 n2 n3 n4 n5 p0 p1 p2 p3 HBX HCL
  have HDg := Lib.hid (HDf.out.below hb)
  have HR1g := Lib.hid (HR1f.out.below hb)
  have HR2g := Lib.hid (HR2f.out.below hb)
  have HT3g := Lib.hid ((hb.block _ (block_lt HT3f.out)).trans HT3f.out)
  have HT6g := Lib.hid ((hb.block _ (block_lt HT6f.out)).trans HT6f.out)
  have HTxg := Lib.hid ((hb.block _ (block_lt HTxf.out)).trans HTxf.out)
  have HR4g := Lib.hid (HR4f.out.below hb)
  clear hb HDf HR1f HR2f HT3f HT6f HTxf HR4f
  generalize sealW (190, []) = s5 at *
  go_upto_region 13 with fail
  have hb := ba wg (.cells #[.slice A5 ([] : List Int).length c5, iV s5] 43)
  change Code.wp _ _ _ _ (wg.alloc (.cells #[.slice A5 ([] : List Int).length c5, iV s5] 43))
  have HDh := Lib.hid (HDg.out.below hb)
  have HR1h := Lib.hid (HR1g.out.below hb)
  have HR2h := Lib.hid (HR2g.out.below hb)
  have HT3h := Lib.hid ((hb.block _ (block_lt HT3g.out)).trans HT3g.out)
  have HT6h := Lib.hid ((hb.block _ (block_lt HT6g.out)).trans HT6g.out)
  have HTxh := Lib.hid ((hb.block _ (block_lt HTxg.out)).trans HTxg.out)
  have HR4h := Lib.hid (HR4g.out.below hb)
  clear hb HDg HR1g HR2g HT3g HT6g HTxg HR4g
  generalize (wg.alloc (.cells #[.slice A5 ([] : List Int).length c5, iV s5] 43)) = Wh at *
  generalize wg.heap.size = Xg at *
  obtain ⟨⟨n0, n1, n2, n3, n4, n5⟩, p0, p1, p2, p3⟩ := HDh.out.six
  go_wp2_with fail
  refine (HDU.out _ HDh.out.net HDh.out.dtab HDh.out.kw).mono ?_
  rintro e wi ⟨rfl, hb⟩
  clear n0 n1 n2 n3 n4 n5 p0 p1 p2 p3
  have HDi := Lib.hid (HDh.out.below hb)
  have HR1i := Lib.hid (HR1h.out.below hb)
  have HR2i := Lib.hid (HR2h.out.below hb)
  have HT3i := Lib.hid ((hb.block _ (block_lt HT3h.out)).trans HT3h.out)
  have HT6i := Lib.hid ((hb.block _ (block_lt HT6h.out)).trans HT6h.out)
  have HTxi := Lib.hid ((hb.block _ (block_lt HTxh.out)).trans HTxh.out)
  have HR4i := Lib.hid (HR4h.out.below hb)
  clear hb HDh HR1h HR2h HT3h HT6h HTxh HR4h
  obtain ⟨⟨n0, -⟩, -⟩ := HDi.out.six
  obtain ⟨hlt, cb, co, hcA, -, hc0, hcc⟩ := elem_at encCal_len HDi.out.net.cals HLC.out (by omega)
  have x0 : wi.cell? ⟨cb, co, none⟩ = some (iV (exCal8 wA).zone) := by have := hc0 _ rfl; simpa using this
  have x1 : wi.cell? ⟨cb, co + 1, none⟩ = some (.slice (exCal8 wA).wA (exCal8 wA).week.length (exCal8 wA).wc) := by have := hcc 1 _ rfl; simpa using this
  have x2 : wi.cell? ⟨cb, co + 2, none⟩ = some (.slice (exCal8 wA).hA (exCal8 wA).hol.length (exCal8 wA).hc) := by have := hcc 2 _ rfl; simpa using this
  rw [hcA] at n0
  have hlt' : (0 : Int) < (N.cals.length : Int) := by omega
  have hlt2 : 0 < N.cals.length := hlt
  have HCV : Hid (calB (exCal8 wA) = true) := by show _ = _; kernel_rfl
  have HLV : Hid (dayOf (exCal8 wA) 720 = 0 ∧ minOf (exCal8 wA) 720 = 720) := ⟨by kernel_rfl, by kernel_rfl⟩
  have HCIN := Lib.hid (HDi.out.net.cal _ (List.mem_of_getElem? HLC.out))
  clear hc0 hcc hcA
  go_wp2_with fail
  refine (local_any (exCal8 wA) 720 _ HCIN.out HCV.out (by omega) (by omega)).mono ?_
  rintro e wj ⟨rfl, hb⟩
  rw [HLV.out.1, HLV.out.2]
  clear n0 x0 x1 x2
  have HDj := Lib.hid (HDi.out.below hb)
  have HR1j := Lib.hid (HR1i.out.below hb)
  have HR2j := Lib.hid (HR2i.out.below hb)
  have HT3j := Lib.hid ((hb.block _ (block_lt HT3i.out)).trans HT3i.out)
  have HT6j := Lib.hid ((hb.block _ (block_lt HT6i.out)).trans HT6i.out)
  have HTxj := Lib.hid ((hb.block _ (block_lt HTxi.out)).trans HTxi.out)
  have HR4j := Lib.hid (HR4i.out.below hb)
  clear hb HDi HR1i HR2i HT3i HT6i HTxi HR4i
  go_upto_region 15 with fail
  have HSw : Hid (∀ w', Below wj.heap.size wj w' → w'.cell? ⟨X3, 0, none⟩ = some (.slice A1 14 c1) ∧ w'.cell? ⟨X3, 1, none⟩ = some (iV s1) ∧ w'.cell? ⟨X6, 0, none⟩ = some (.slice A2 13 c2)) := fun w' hb =>
    ⟨cell_of_row _ _ 0 _ _ _ ((hb.block _ (block_lt HT3j.out)).trans HT3j.out), cell_of_row _ _ 1 _ _ _ ((hb.block _ (block_lt HT3j.out)).trans HT3j.out), cell_of_row _ _ 0 _ _ _ ((hb.block _ (block_lt HT6j.out)).trans HT6j.out)⟩
  have HF : Hid True := trivial
  have hs1 : sealR [0, 1, 2, 1, 0, 1, 2, 0, 1, 1, 1, 1, 2, 2] = s1 := HS1.out
  have HSE : Hid (∀ W, Rd W A1 ([0, 1, 2, 1, 0, 1, 2, 0, 1, 1, 1, 1, 2, 2].map iV) → Calls Tryz.prog 10 #[.slice A1 14 c1] W fun e w' => e = .returned (iV s1) ∧ W = w') := fun W h => by
    have := seal_any [0, 1, 2, 1, 0, 1, 2, 0, 1, 1, 1, 1, 2, 2] A1 c1 W h (by decide) (fun x hx => by (have h2 : 0 ≤ x ∧ x ≤ 2 := by simp at hx; omega); exact i64_small (by omega) (by omega))
    rw [hs1] at this
    exact this
  clear hs1
  have e11 : (s1 == s1) = true := by simp
  go_region_held3 (fun w' => w'.cell? ⟨X3, 0, none⟩ = some (.slice A1 14 c1) ∧ w'.cell? ⟨X3, 1, none⟩ = some (iV s1) ∧ w'.cell? ⟨X6, 0, none⟩ = some (.slice A2 13 c2)) (first | (with_reducible exact HSw.out _ (b_drew (Below.refl _ _))) | (with_reducible exact HSw.out _ HBq.out) | (with_reducible exact HSw.out _ HBr.out) | (with_reducible exact HSw.out _ ((b_drew (Below.refl _ _)).alloc (by simp) _)) | (with_reducible exact HSw.out _ (HBq.out.alloc HBq.out.size _))) (first
      | (go_at_call 17; have hguard := HF.out; refine (ints_any [0, 1, 2, 1, 0, 1, 2, 0, 1, 1, 1, 1, 2, 2] [0, 1, 2, 1, 0, 1, 2, 0, 1, 1, 1, 1, 2, 2] A1 (some ⟨_, 0, none⟩) c1 14 _ (HR1j.out.below ((b_drew (Below.refl _ _)).alloc (by simp) _)) (rd_block (heap_alloc_new _ _)) (by decide)).mono ?_; rintro e wq ⟨rfl, hb⟩; have HBq := Lib.hid (bt ((b_drew (Below.refl _ _)).alloc (by simp) _) hb); clear hb hguard HF)
      | (go_at_call 10; refine (HSE.out _ (HR1j.out.below HBq.out)).mono ?_; rintro e wq2 ⟨rfl, rfl⟩)
      | (go_at_call 17; refine (ints_any [0, 1, 2, 1, 0, 1, 2, 0, 0, 2, 0, 0, 2] [0, 1, 2, 1, 0, 1, 2, 0, 0, 2, 0, 0, 2] A2 (some ⟨_, 0, none⟩) c2 13 _ (HR2j.out.below (HBq.out.alloc HBq.out.size _)) (rd_block (heap_alloc_new _ _)) (by decide)).mono ?_; rintro e wr ⟨rfl, hb⟩; have HBr := Lib.hid (bt (HBq.out.alloc HBq.out.size _) hb); clear hb)
      | fail)
  have HDk := Lib.hid (HDj.out.below HBr.out)
  have hTk := (HBr.out.block _ (block_lt HTxj.out)).trans HTxj.out
  have HR4k := Lib.hid (HR4j.out.below HBr.out)
  have z0 : wr.cell? ⟨Xa, 0, none⟩ = some (.slice A4 1 c4) := cell_of_row _ _ 0 _ _ _ hTk
  have z1 : wr.cell? ⟨Xa, 1, none⟩ = some (iV 27) := cell_of_row _ _ 1 _ _ _ hTk
  have HTk := Lib.hid hTk
  clear hTk HSw HSE HBq HBr HDj HR1j HR2j HT3j HT6j HTxj HR4j
  go_wp2_with fail
  have hbk := (b_drew (Below.refl wr.heap.size wr)).alloc (by simp) (.cells #[iV 9] 3)
  refine (same8_refl [9] 27 A4 (some ⟨_, 0, none⟩) c4 1 _ (HR4k.out.below ((Below.refl _ _).alloc (Nat.le_refl _) _)) (rd_block (heap_alloc_new _ _)) (by decide)).mono ?_
  rintro e wl ⟨rfl, hb⟩
  have hbl := bt ((Below.refl wr.heap.size wr).alloc (Nat.le_refl _) (.cells #[iV 9] 3)) hb
  have HDl := Lib.hid (HDk.out.bel.trans (hbl.mono HDk.out.bel.size))
  have HR4l := Lib.hid (HR4k.out.below hbl)
  have hTl := (hbl.block _ (block_lt HTk.out)).trans HTk.out
  clear hb hbk hbl HDk HR4k HTk z0 z1
  have z0 : wl.cell? ⟨Xa, 0, none⟩ = some (.slice A4 1 c4) := cell_of_row _ _ 0 _ _ _ hTl
  have z1 : wl.cell? ⟨Xa, 1, none⟩ = some (iV 27) := cell_of_row _ _ 1 _ _ _ hTl
  clear hTl
  go_wp2_with fail
  refine (text_27 A4 c4 _ HR4l.out).mono ?_
  rintro e wm ⟨rfl, hb⟩
  have HDm := Lib.hid (HDl.out.trans (hb.mono HDl.out.size))
  clear hb HDl HR4l z0 z1
  have hs9 : sealR [9] = 27 := by kernel_rfl
  have HSN : Hid (∀ W b, Rd W (some ⟨b, 0, none⟩) ([9].map iV) → Calls Tryz.prog 10 #[.slice (some ⟨b, 0, none⟩) 1 1] W fun e w' => e = .returned (iV 27) ∧ W = w') := fun W b h => by
    have := seal_any [9] (some ⟨b, 0, none⟩) 1 W h (by decide) (fun x hx => by (have h2 : x = 9 := by simpa using hx); subst h2; exact i64_small (by decide) (by decide))
    rw [hs9] at this
    exact this
  clear hs9
  go_wp2_with fail
  refine (HSN.out _ _ (rd_block (heap_alloc_new _ _))).mono ?_
  rintro e wn ⟨rfl, rfl⟩
  go_wp2_with fail
  go_ret
  exact ⟨rfl, HDm.out.trans ((ba wm _).mono HDm.out.size)⟩
end Go.Proofs.YtjpabeoflhkfkaaGreatDoor
