/-
  The walks over the reference's Small, Few, Lines, within. (Printed by gen_refs.py.) The walk over the reference's Distances.
-/
import Derived.Test.YtpeaiphdkgifaaaGreatDoorWaw
namespace Go.Proofs.YtpeaiphdkgifaaaGreatDoor
open Go.RowKit
set_option maxHeartbeats 20000000
set_option maxRecDepth 100000
theorem within_any (i m : Int) (w : World) : Calls Tryz.prog 144 #[iV i, iV m] w fun e w' => e = .returned (.bool (decide (0 <= i) && decide (i < m))) /\ w = w' := by
 by_cases h : 0 <= i
 ·have HR : Hid ((decide (0 <= i) && decide (i < m)) = decide (i < m)) := by show _ = _; simp [h]
  go_enter Tryz.func144, Tryz.ntmps144
  go_wp2
  go_ret
  exact ⟨ret_bool HR.out.symm, rfl⟩
 ·have HR : Hid ((decide (0 <= i) && decide (i < m)) = false) := by show _ = _; simp [h]
  go_enter Tryz.func144, Tryz.ntmps144
  go_wp2
  go_ret
  exact ⟨ret_bool HR.out.symm, rfl⟩
def BoolR (Q : Bool -> Prop) (e : Ending) : Prop := ∃ b, e = .returned (.bool b) /\ Q b
theorem small2_any (c : Cal) (w : World) (hc : CalIn w c) :
  Calls Tryz.prog 180 #[calV c] w fun e w' => BoolR (fun _ => True) e /\ Below w.heap.size w w' := by
 obtain ⟨-, -, -, -, hl1, hl2⟩ := hc
 have HB := Lib.hid (ba w (.cells (encCal c).toArray 110))
 unfold maxLen at hl1 hl2
 have hbox := cal_box w c 110
 unfold encCal at HB hbox
 obtain ⟨k0, k1, k2⟩ := hbox
 by_cases h : c.week.length <= 20
 ·have i1 : (c.week.length : Int) <= 20 := by omega
  clear h
  go_enter Tryz.func180, Tryz.ntmps180
  go_wp2
  go_ret
  exact ⟨⟨_, rfl, trivial⟩, HB.out⟩
 ·have i1 : ¬ (c.week.length : Int) <= 20 := by omega
  clear h
  go_enter Tryz.func180, Tryz.ntmps180
  go_wp2
  go_ret
  exact ⟨⟨_, rfl, trivial⟩, HB.out⟩
theorem lines_any (n : Net) (A : Option Addr) (c : Nat) (nx : List NsC) (w : World) (hn : NetIn w n) (hT : Tab w A nx) (hx : nx.length <= maxLen) :
  Calls Tryz.prog 85 #[netV n, .slice A nx.length c] w fun e w' => e = .returned (.bool (formB n nx)) /\ Below w.heap.size w w' := by
 have hf1 := hn.lens.2.2.2.1
 have hf2 := hn.lens.2.2.2.2.1
 have hb0 := ba w (netO n)
 have hx0 := heap_alloc_new w (netO n)
 have hN : NetP (w.alloc (netO n)) w.heap.size n := ⟨fun i v hv => (cell_of_row _ _ _ _ _ _ hx0).trans hv, hn.below hb0⟩
 have n3 : (w.alloc (netO n)).cell? ⟨w.heap.size, 3, none⟩ = some (.slice n.offA n.offs.length n.offC) := hN.box 3 _ rfl
 have n4 : (w.alloc (netO n)).cell? ⟨w.heap.size, 4, none⟩ = some (.slice n.linA n.lins.length n.linC) := hN.box 4 _ rfl
 have HN := Lib.hid hN; clear hN
 have HT := Lib.hid (hT.below hb0); clear hT
 have HB0 := Lib.hid hb0
 clear hn hb0 hx0
 unfold maxLen at hx hf1 hf2
 by_cases hlen : nx.length = n.offs.length
 ·have i1 : ((nx.length : Int) != (n.offs.length : Int)) = false := by simp; omega
  have i1' : ((nx.length : Int) == (n.offs.length : Int)) = true := by simp; omega
  have HLEN := Lib.hid hlen
  go_enter Tryz.func85, Tryz.ntmps85
  go_upto_region 1 with fail
  change Code.wp _ _ _ _ (w.alloc (netO n))
  generalize (w.alloc (netO n)) = W at *
  go_wp2
  clear hlen
  go_loopw [5] (fun i wr => ∃ k q : Nat, k <= nx.length /\ i = iV k /\ wr = W.drewN q /\ Hid (∀ o r, o < k -> nx[o]? = some r -> r.ns.length = n.offs.length /\ ∀ l ∈ r.ns, EntryOk n o l)) (fun i _ => nx.length + 1 - (intOf i).toNat)
  case atStart => exact ⟨0, 0, by omega, rfl, rfl, fun o r h => by omega⟩
  case round =>
   obtain ⟨k, q, hk, rfl, rfl, HS⟩ := hrel
   have j0 : (0 : Int) <= (k : Int) := by omega
   by_cases hlt : k < nx.length
   ·have j1 : (k : Int) < (nx.length : Int) := by omega
    have hr : nx[k]? = some nx[k] := List.getElem?_eq_getElem _
    generalize nx[k] = r at hr
    obtain ⟨ns, rA, rc⟩ := r
    have HTr : Hid (Rd W rA (ns.map iV) /\ (∀ n ∈ ns, I64 n) /\ ns.length <= maxLen) := HT.out.row _ (List.mem_of_getElem? hr)
    obtain ⟨nb, no, hnA, -, hnc⟩ := HT.out.rd.get (i := k) (by rw [List.length_map]; exact hlt)
    have x1 : W.cell? ⟨nb, no + k, none⟩ = some (.slice rA ns.length rc) := hnc k _ (by rw [List.getElem?_map, hr]; rfl)
    have HNA := Lib.hid hnA
    have HRr := Lib.hid hr; clear hr hnc
    subst hnA
    have hrm := HTr.out.2.2
    unfold maxLen at hrm
    by_cases hrl : ns.length = n.offs.length
    ·have i2 : ((ns.length : Int) != (nx.length : Int)) = false := by have := HLEN.out; simp; omega
     have i2' : ((ns.length : Int) == (nx.length : Int)) = true := by have := HLEN.out; simp; omega
     have HRL := Lib.hid hrl; clear hrl
     go_wp2
     go_loopw [6] (fun i wr => ∃ m p : Nat, m <= ns.length /\ i = iV m /\ wr = W.drewN p /\ Hid (∀ j l, j < m -> ns[j]? = some l -> EntryOk n k l)) (fun i _ => ns.length + 1 - (intOf i).toNat)
     case atStart => exact ⟨0, _, by omega, rfl, rfl, fun o r h => by omega⟩
     case round =>
      obtain ⟨m, p, hm, rfl, rfl, HQ⟩ := hrel
      have m0 : (0 : Int) <= (m : Int) := by omega
      by_cases hmt : m < ns.length
      ·have m1 : (m : Int) < (ns.length : Int) := by omega
       have m1b : (m : Int) < (nx.length : Int) := by have := HLEN.out; have := HRL.out; omega
       have hl : ns[m]? = some ns[m] := List.getElem?_eq_getElem _
       obtain ⟨rb, ro, hrA, -, hrc⟩ := HTr.out.1.get (i := m) (by rw [List.length_map]; exact hmt)
       have x2 : W.cell? ⟨rb, ro + m, none⟩ = some (iV ns[m]) := hrc m _ (by simp [hmt])
       generalize ns[m] = l at hl x2
       have HL := Lib.hid hl; clear hl hrc
       have HRA := Lib.hid hrA
       subst hrA
       have HNO : Hid (¬ EntryOk n k l -> formB n nx = false) := fun hno => formB_false (fun h => hno ((((formed_iff n nx).1 h).2 k _ HRr.out).2 l (List.mem_of_getElem? HL.out)))
       have HYES : Hid (EntryOk n k l -> ∀ j l, j < m + 1 -> ns[j]? = some l -> EntryOk n k l) := fun hy j l' hj hl' => by
        rcases Nat.lt_or_ge j m with h | h
        ·exact HQ.out j l' h hl'
        ·obtain rfl : j = m := by omega
         rw [HL.out] at hl'
         cases hl'
         exact hy
       by_cases hm1 : l = -1
       ·subst hm1
        go_wp2
        go_roundw
        case rel => exact ⟨m + 1, _, by omega, by go_num, rfl, HYES.out (.inl rfl)⟩
        case measure => simp [intOf]; omega
       ·have hm2 : (l != -1) = true := by simpa using hm1
        have hm3 : (l == -1) = false := by simpa using hm1
        have HM1 := Lib.hid hm1; clear hm1
        by_cases hin : 0 <= l /\ l < (n.lins.length : Int)
        ·obtain ⟨hp, hq⟩ := hin
         obtain ⟨li, rfl⟩ := Int.eq_ofNat_of_zero_le hp
         have hq' : li < n.lins.length := by omega
         obtain ⟨-, lb, lo, hlA, -, -, hlc⟩ := elem_at encLin_len HN.out.net.lins (linAt_get hq') (by omega)
         have y1 : W.cell? ⟨lb, lo + li * 6 + 1, none⟩ = some (iV (linAt n li).frm) := hlc 1 _ rfl
         clear hlc hq'
         rw [hlA] at n4
         have HB : Hid ((decide (0 <= (li : Int)) && decide ((li : Int) < (n.lins.length : Int))) = true) := by show _ = _; simp [hq]
         by_cases hfr : (linAt n li).frm = (k : Int)
         ·have f1 : ((linAt n li).frm != (k : Int)) = false := by simpa using hfr
          have f2 : ((linAt n li).frm == (k : Int)) = true := by simpa using hfr
          have HF := Lib.hid hfr; clear hfr
          go_wp2_with fail
          refine (within_any _ _ _).mono ?_
          rintro e w2 ⟨rfl, rfl⟩
          rw [HB.out]
          go_wp2
          go_roundw
          case rel => exact ⟨m + 1, _, by omega, by go_num, rfl, HYES.out (.inr ⟨by omega, by omega, HF.out⟩)⟩
          case measure => simp [intOf]; omega
         ·have f1 : ((linAt n li).frm != (k : Int)) = true := by simpa using hfr
          have f2 : ((linAt n li).frm == (k : Int)) = false := by simpa using hfr
          have HR : Hid (formB n nx = false) := HNO.out (fun h => by
           rcases h with h | ⟨-, -, h⟩
           ·exact HM1.out h
           ·exact hfr h)
          clear hfr
          go_wp2_with fail
          refine (within_any _ _ _).mono ?_
          rintro e w2 ⟨rfl, rfl⟩
          rw [HB.out]
          go_wp2
          go_ret
          exact ⟨ret_bool HR.out.symm, below_drewN HB0.out _⟩
        ·have HB : Hid ((decide (0 <= l) && decide (l < (n.lins.length : Int))) = false) := by
          show _ = _
          rw [Bool.eq_false_iff]
          intro h
          simp at h
          exact hin ⟨h.1, h.2⟩
         have HR : Hid (formB n nx = false) := HNO.out (fun h => by
          rcases h with h | ⟨h1, h2, -⟩
          ·exact HM1.out h
          ·exact hin ⟨h1, h2⟩)
         clear hin
         go_wp2_with fail
         refine (within_any _ _ _).mono ?_
         rintro e w2 ⟨rfl, rfl⟩
         rw [HB.out]
         go_wp2
         go_ret
         exact ⟨ret_bool HR.out.symm, below_drewN HB0.out _⟩
      ·have m1 : ¬ (m : Int) < (nx.length : Int) := by have := HLEN.out; have := HRL.out; omega
       have HK1 : Hid (∀ o r, o < k + 1 -> nx[o]? = some r -> r.ns.length = n.offs.length /\ ∀ l ∈ r.ns, EntryOk n o l) := fun o r' ho hr' => by
        rcases Nat.lt_or_ge o k with h | h
        ·exact HS.out o r' h hr'
        ·obtain rfl : o = k := by omega
         rw [HRr.out] at hr'
         cases hr'
         refine ⟨HRL.out, fun l hl => ?_⟩
         obtain ⟨j, hj, hjl⟩ := List.mem_iff_getElem.1 hl
         have hj2 : j < ns.length := hj
         exact HQ.out j l (by omega) (by rw [List.getElem?_eq_getElem hj, hjl])
       go_wp2
       go_roundw
       case rel => exact ⟨k + 1, _, by omega, by go_num, rfl, HK1.out⟩
       case measure => simp [intOf]; omega
    ·have i2 : ((ns.length : Int) != (nx.length : Int)) = true := by have := HLEN.out; simp; omega
     have i2' : ((ns.length : Int) == (nx.length : Int)) = false := by have := HLEN.out; simp; omega
     have HR : Hid (formB n nx = false) := formB_false (fun h => hrl (((formed_iff n nx).1 h).2 k _ HRr.out).1)
     clear hrl
     go_wp2
     go_ret
     exact ⟨ret_bool HR.out.symm, below_drewN HB0.out _⟩
   ·have j1 : ¬ (k : Int) < (nx.length : Int) := by omega
    have HR : Hid (formB n nx = true) := formB_true.2 ((formed_iff n nx).2 ⟨HLEN.out, fun o r hr => HS.out o r (by have := (List.getElem?_eq_some_iff.1 hr).1; omega) hr⟩)
    go_wp2
    go_ret
    exact ⟨ret_bool HR.out.symm, below_drewN HB0.out _⟩
 ·have i1 : ((nx.length : Int) != (n.offs.length : Int)) = true := by simp; omega
  have i1' : ((nx.length : Int) == (n.offs.length : Int)) = false := by simp; omega
  have HR : Hid (formB n nx = false) := formB_false (fun h => hlen h.1)
  clear hlen
  go_enter Tryz.func85, Tryz.ntmps85
  go_wp2
  go_ret
  exact ⟨ret_bool HR.out.symm, HB0.out⟩
theorem few_any (n : Net) (w : World) (hn : NetIn w n) :
  Calls Tryz.prog 142 #[netV n] w fun e w' => BoolR (fun b => b = true -> FewN n) e /\ Below w.heap.size w w' := by
 have hb0 := ba w (netO n)
 have hx0 := heap_alloc_new w (netO n)
 have hl := hn.lens
 unfold maxLen at hl
 have HNP : Hid (NetP (w.alloc (netO n)) w.heap.size n) := ⟨fun i v hv => (cell_of_row _ _ _ _ _ _ hx0).trans hv, hn.below hb0⟩
 have HNW := Lib.hid hn
 have HB0 := Lib.hid hb0
 have HWL : Hid (w.heap.size + 1 <= (w.alloc (netO n)).heap.size) := block_lt hx0
 clear hn hb0 hx0
 go_enter Tryz.func142, Tryz.ntmps142
 go_upto_region 1 with fail
 change Code.wp _ _ _ _ (w.alloc (netO n))
 generalize (w.alloc (netO n)) = W at *
 generalize hX : w.heap.size = X at *
 have HX := Lib.hid hX; clear hX
 have HNB : Hid (∀ wr, Below (X + 1) W wr -> Below w.heap.size w wr /\ NetP wr X n) := fun wr hb => box_keep HNW.out HX.out HB0.out HNP.out.box hb
 have HNO : Hid (∀ wr, Below (X + 1) W wr -> BoolR (fun b => b = true -> FewN n) (.returned (.bool false)) /\ Below w.heap.size w wr) := fun wr hb => ⟨⟨false, rfl, fun h => by cases h⟩, (HNB.out wr hb).1⟩
 have n0 : W.cell? ⟨X, 0, none⟩ = some (.slice n.calA n.cals.length n.calC) := HNP.out.box 0 _ rfl
 have n1 : W.cell? ⟨X, 1, none⟩ = some (.slice n.namA n.names.length n.namC) := HNP.out.box 1 _ rfl
 have n2 : W.cell? ⟨X, 2, none⟩ = some (.slice n.opA n.ops.length n.opC) := HNP.out.box 2 _ rfl
 have n3 : W.cell? ⟨X, 3, none⟩ = some (.slice n.offA n.offs.length n.offC) := HNP.out.box 3 _ rfl
 have n4 : W.cell? ⟨X, 4, none⟩ = some (.slice n.linA n.lins.length n.linC) := HNP.out.box 4 _ rfl
 have n5 : W.cell? ⟨X, 5, none⟩ = some (.slice n.clsA n.clss.length n.clsC) := HNP.out.box 5 _ rfl
 by_cases c_cals : n.cals.length <= 10
 case neg =>
  have i_cals : (10 : Int) < (n.cals.length : Int) := by omega
  go_wp2_with fail
  go_ret
  exact HNO.out _ (Below.refl _ _)
 have i_cals : ¬ (10 : Int) < (n.cals.length : Int) := by omega
 by_cases c_names : n.names.length <= 10
 case neg =>
  have i_names : (10 : Int) < (n.names.length : Int) := by omega
  go_wp2_with fail
  go_ret
  exact HNO.out _ (Below.refl _ _)
 have i_names : ¬ (10 : Int) < (n.names.length : Int) := by omega
 by_cases c_ops : n.ops.length <= 10
 case neg =>
  have i_ops : (10 : Int) < (n.ops.length : Int) := by omega
  go_wp2_with fail
  go_ret
  exact HNO.out _ (Below.refl _ _)
 have i_ops : ¬ (10 : Int) < (n.ops.length : Int) := by omega
 by_cases c_offs : n.offs.length <= 16
 case neg =>
  have i_offs : (16 : Int) < (n.offs.length : Int) := by omega
  go_wp2_with fail
  go_ret
  exact HNO.out _ (Below.refl _ _)
 have i_offs : ¬ (16 : Int) < (n.offs.length : Int) := by omega
 by_cases c_lins : n.lins.length <= 50
 case neg =>
  have i_lins : (50 : Int) < (n.lins.length : Int) := by omega
  go_wp2_with fail
  go_ret
  exact HNO.out _ (Below.refl _ _)
 have i_lins : ¬ (50 : Int) < (n.lins.length : Int) := by omega
 by_cases c_clss : n.clss.length <= 8
 case neg =>
  have i_clss : (8 : Int) < (n.clss.length : Int) := by omega
  go_wp2_with fail
  go_ret
  exact HNO.out _ (Below.refl _ _)
 have i_clss : ¬ (8 : Int) < (n.clss.length : Int) := by omega
 have HF : Hid (FewN n) := ⟨c_cals, c_names, c_ops, c_offs, c_lins, c_clss⟩
 go_wp2_with fail
 clear n0 n1 n2 n3 n4 n5 i_names i_ops i_cals i_offs i_lins i_clss c_names c_ops c_lins c_clss hl
 go_loopw [3] (fun i wr => ∃ k : Nat, k <= n.cals.length /\ i = iV k /\ Hid (Below (X + 1) W wr)) (fun i _ => 60 - (intOf i).toNat)
 case atStart => exact ⟨0, by omega, rfl, Below.refl _ _⟩
 case round =>
 obtain ⟨k, hk, rfl, HB⟩ := hrel
 have k0 : (0 : Int) <= (k : Int) := by omega
 have hnp := (HNB.out _ HB.out).2
 have n0 : wr.cell? ⟨X, 0, none⟩ = some (.slice n.calA n.cals.length n.calC) := hnp.box 0 _ rfl
 by_cases hlt : k < n.cals.length
 case pos =>
  have k1 : (k : Int) < (n.cals.length : Int) := by omega
  have hx : n.cals[k]? = some n.cals[k] := List.getElem?_eq_getElem _
  generalize n.cals[k] = x at hx
  obtain ⟨-, b, off, hA, -, hc0, hc⟩ := elem_at encCal_len hnp.net.cals hx (by omega)
  have x0 := hc0 _ rfl
  have x1 := hc 1 _ rfl
  have x2 := hc 2 _ rfl
  have HXC := Lib.hid (hnp.net.cal x (List.mem_of_getElem? hx))
  rw [hA] at n0
  clear hA hc0 hc hx hnp
  go_wp2_with fail
  refine (small2_any x _ HXC.out).mono ?_
  rintro e w2 ⟨⟨bb, rfl, -⟩, hb⟩
  have HB2 : Hid (Below (X + 1) W w2) := HB.out.trans (hb.mono (Nat.le_trans HWL.out HB.out.size))
  clear hb n0 x0 x1 x2
  cases bb
  ·go_wp2_with fail
   go_ret
   exact HNO.out _ HB2.out
  ·go_wp2_with fail
   go_roundw
   case rel => exact ⟨k + 1, by omega, by go_num, HB2.out⟩
   case measure => simp [intOf]; omega
 have k1 : ¬ (k : Int) < (n.cals.length : Int) := by omega
 clear hnp
 go_wp2_with fail
 clear n0
 go_loopw [4] (fun i wr' => ∃ k : Nat, k <= n.offs.length /\ i = iV k /\ wr' = wr) (fun i _ => 60 - (intOf i).toNat)
 case atStart => exact ⟨0, by omega, rfl, rfl⟩
 case round =>
 obtain ⟨q, hq, rfl, rfl⟩ := hrel
 have q0 : (0 : Int) <= (q : Int) := by omega
 have hnp := (HNB.out _ HB.out).2
 have n3 : wr.cell? ⟨X, 3, none⟩ = some (.slice n.offA n.offs.length n.offC) := hnp.box 3 _ rfl
 by_cases hqt : q < n.offs.length
 case pos =>
  have q1 : (q : Int) < (n.offs.length : Int) := by omega
  have hx : n.offs[q]? = some n.offs[q] := List.getElem?_eq_getElem _
  generalize n.offs[q] = x at hx
  obtain ⟨-, b, off, hA, -, -, hc⟩ := elem_at encOff_len hnp.net.offs hx (by omega)
  have x6 := hc 6 _ rfl
  rw [hA] at n3
  clear hA hc hx hnp
  by_cases hcc : x.codes.length <= 30
  ·have g1 : ¬ (30 : Int) < (x.codes.length : Int) := by omega
   clear hcc
   go_wp2_with fail
   go_roundw
   case rel => exact ⟨q + 1, by omega, by go_num, by first | trivial | rfl⟩
   case measure => simp [intOf]; omega
  ·have g1 : (30 : Int) < (x.codes.length : Int) := by omega
   clear hcc
   go_wp2_with fail
   go_ret
   exact HNO.out _ HB.out
 have q1 : ¬ (q : Int) < (n.offs.length : Int) := by omega
 clear hnp
 go_wp2_with fail
 clear n3
 go_loopw [5] (fun kd wr => ∃ K : Nat, 1 <= K /\ K <= 6 /\ kd = iV K /\ Hid (Below (X + 1) W wr)) (fun kd _ => 7 - (intOf kd).toNat)
 case atStart => exact ⟨1, by omega, by omega, rfl, HB.out⟩
 case round =>
 clear HB k0 k1 hlt hk q0 q1 hqt hq
 obtain ⟨K, hK1, hK2, rfl, HB⟩ := hrel
 by_cases hK : K <= 5
 case neg =>
  have k1 : ¬ (K : Int) <= 5 := by omega
  go_wp2_with fail
  go_ret
  exact ⟨⟨true, rfl, fun _ => HF.out⟩, (HNB.out _ HB.out).1⟩
 have k1 : (K : Int) <= 5 := by omega
 have n0 : wr.cell? ⟨X, 0, none⟩ = some (.slice n.calA n.cals.length n.calC) := (HNB.out _ HB.out).2.box 0 _ rfl
 have n1 : wr.cell? ⟨X, 1, none⟩ = some (.slice n.namA n.names.length n.namC) := (HNB.out _ HB.out).2.box 1 _ rfl
 have n2 : wr.cell? ⟨X, 2, none⟩ = some (.slice n.opA n.ops.length n.opC) := (HNB.out _ HB.out).2.box 2 _ rfl
 have n3 : wr.cell? ⟨X, 3, none⟩ = some (.slice n.offA n.offs.length n.offC) := (HNB.out _ HB.out).2.box 3 _ rfl
 have n4 : wr.cell? ⟨X, 4, none⟩ = some (.slice n.linA n.lins.length n.linC) := (HNB.out _ HB.out).2.box 4 _ rfl
 have n5 : wr.cell? ⟨X, 5, none⟩ = some (.slice n.clsA n.clss.length n.clsC) := (HNB.out _ HB.out).2.box 5 _ rfl
 go_wp2_with fail
 refine (names_any K hK1 hK n _ (HNB.out _ HB.out).2.net HF.out).mono ?_
 rintro e w2 ⟨A3, c3, rfl, hr, -, hb⟩
 have HRD := Lib.hid hr
 have HB2 : Hid (Below (X + 1) W w2) := HB.out.trans (hb.mono (Nat.le_trans HWL.out HB.out.size))
 have HSH := Lib.hid (nms_short (HNB.out _ HB2.out).2.net hK1 hK)
 have hlen := nms_few HF.out hK1 hK
 clear hr hb n0 n1 n2 n3 n4 n5
 go_wp2_with fail
 go_loopw [7] (fun i wr' => ∃ k : Nat, k <= (nmsOf n K).length /\ i = iV k /\ wr' = w2) (fun i _ => 60 - (intOf i).toNat)
 case atStart => exact ⟨0, by omega, rfl, rfl⟩
 case round =>
 obtain ⟨k, hk, rfl, rfl⟩ := hrel
 have m0 : (0 : Int) <= (k : Int) := by omega
 by_cases hkl : k < (nmsOf n K).length
 case pos =>
  have m1 : (k : Int) < ((nmsOf n K).length : Int) := by omega
  have hx : (nmsOf n K)[k]? = some (nmsOf n K)[k] := List.getElem?_eq_getElem _
  have hxl := HSH.out _ (List.mem_of_getElem? hx)
  obtain ⟨b, off, hA, -, hc⟩ := HRD.out.get (i := k) (by rw [List.length_map]; exact hkl)
  have x0 := hc k (sV (nmsOf n K)[k]) (by rw [List.getElem?_map, hx]; rfl)
  generalize (nmsOf n K)[k] = s at hx hxl x0
  unfold maxLen at hxl
  have HA := Lib.hid hA
  subst hA
  clear hc hx
  by_cases hcc : s.length <= 40
  ·have g1 : ¬ (40 : Int) < (s.length : Int) := by omega
   clear hcc
   go_wp2_with fail
   go_roundw
   case rel => exact ⟨k + 1, by omega, by go_num, by first | trivial | rfl⟩
   case measure => simp [intOf]; omega
  ·have g1 : (40 : Int) < (s.length : Int) := by omega
   clear hcc
   go_wp2_with fail
   go_ret
   exact HNO.out _ HB2.out
 have m1 : ¬ (k : Int) < ((nmsOf n K).length : Int) := by omega
 go_wp2_with fail
 go_roundw
 case rel => exact ⟨K + 1, by omega, by omega, by go_num, HB2.out⟩
 case measure => simp [intOf]; omega
theorem small_any (n : Net) (A : Option Addr) (c : Nat) (nx : List NsC) (w : World) (hn : NetIn w n) (hT : Tab w A nx) (hx : nx.length <= maxLen) :
  Calls Tryz.prog 83 #[netV n, .slice A nx.length c] w fun e w' => BoolR (fun b => b = true -> FewN n /\ n.offs.length <= 6) e /\ Below w.heap.size w w' := by
 have hb0 := ba w (netO n)
 have hx0 := heap_alloc_new w (netO n)
 have hl := hn.lens.2.2.2.1
 unfold maxLen at hl hx
 have HNP : Hid (NetP (w.alloc (netO n)) w.heap.size n) := ⟨fun i v hv => (cell_of_row _ _ _ _ _ _ hx0).trans hv, hn.below hb0⟩
 have HT := Lib.hid (hT.below hb0)
 have HB0 := Lib.hid hb0
 clear hn hT hb0 hx0
 go_enter Tryz.func83, Tryz.ntmps83
 go_upto_region 1 with fail
 change Code.wp _ _ _ _ (w.alloc (netO n))
 generalize (w.alloc (netO n)) = W at *
 generalize hX : w.heap.size = X at *
 have HX := Lib.hid hX; clear hX
 have HNB : Hid (∀ wr, Below W.heap.size W wr -> Below w.heap.size w wr) := fun wr hb => by have h := HB0.out; rw [<- HX.out] at h; exact bt h hb
 have HNO : Hid (∀ wr, Below W.heap.size W wr -> BoolR (fun b => b = true -> FewN n /\ n.offs.length <= 6) (.returned (.bool false)) /\ Below w.heap.size w wr) := fun wr hb => ⟨⟨false, rfl, fun h => by cases h⟩, (HNB.out wr hb)⟩
 have n0 : W.cell? ⟨X, 0, none⟩ = some (.slice n.calA n.cals.length n.calC) := HNP.out.box 0 _ rfl
 have n1 : W.cell? ⟨X, 1, none⟩ = some (.slice n.namA n.names.length n.namC) := HNP.out.box 1 _ rfl
 have n2 : W.cell? ⟨X, 2, none⟩ = some (.slice n.opA n.ops.length n.opC) := HNP.out.box 2 _ rfl
 have n3 : W.cell? ⟨X, 3, none⟩ = some (.slice n.offA n.offs.length n.offC) := HNP.out.box 3 _ rfl
 have n4 : W.cell? ⟨X, 4, none⟩ = some (.slice n.linA n.lins.length n.linC) := HNP.out.box 4 _ rfl
 have n5 : W.cell? ⟨X, 5, none⟩ = some (.slice n.clsA n.clss.length n.clsC) := HNP.out.box 5 _ rfl
 go_wp2_with fail
 refine (few_any n _ HNP.out.net).mono ?_
 rintro e w2 ⟨⟨bb, rfl, hf⟩, hb⟩
 have HB := Lib.hid hb
 have HF := Lib.hid hf
 have HT2 := Lib.hid (HT.out.below hb)
 have m3 : w2.cell? ⟨X, 3, none⟩ = some (.slice n.offA n.offs.length n.offC) := (HNP.out.below hb).box 3 _ rfl
 clear hb hf n0 n1 n2 n3 n4 n5
 cases bb
 ·go_wp2_with fail
  go_ret
  exact HNO.out _ HB.out
 have HF1 : Hid (FewN n) := HF.out rfl
 clear HF
 by_cases h6 : n.offs.length <= 6
 case neg =>
  have i6 : (6 : Int) < (n.offs.length : Int) := by omega
  clear h6
  go_wp2_with fail
  go_ret
  exact HNO.out _ HB.out
 have i6 : ¬ (6 : Int) < (n.offs.length : Int) := by omega
 have H6 := Lib.hid h6; clear h6
 by_cases h10 : nx.length <= 10
 case neg =>
  have i7 : (10 : Int) < (nx.length : Int) := by omega
  clear h10
  go_wp2_with fail
  go_ret
  exact HNO.out _ HB.out
 have i7 : ¬ (10 : Int) < (nx.length : Int) := by omega
 go_wp2_with fail
 clear m3 i6 i7
 go_loopw [5] (fun i wr => ∃ k : Nat, k <= nx.length /\ i = iV k /\ wr = w2) (fun i _ => 60 - (intOf i).toNat)
 case atStart => exact ⟨0, by omega, rfl, rfl⟩
 case round =>
 obtain ⟨k, hk, rfl, rfl⟩ := hrel
 have m0 : (0 : Int) <= (k : Int) := by omega
 by_cases hlt : k < nx.length
 case pos =>
  have m1 : (k : Int) < (nx.length : Int) := by omega
  have hr : nx[k]? = some nx[k] := List.getElem?_eq_getElem _
  generalize nx[k] = r at hr
  obtain ⟨ns, rA, rc⟩ := r
  have hrl := (HT2.out.row _ (List.mem_of_getElem? hr)).2.2
  obtain ⟨nb, no, hnA, -, hnc⟩ := HT2.out.rd.get (i := k) (by rw [List.length_map]; exact hlt)
  have x1 : wr.cell? ⟨nb, no + k, none⟩ = some (.slice rA ns.length rc) := hnc k _ (by rw [List.getElem?_map, hr]; rfl)
  have HNA := Lib.hid hnA
  clear hr hnc
  subst hnA
  have hrl' : ns.length <= maxLen := hrl
  unfold maxLen at hrl'
  clear hrl
  by_cases hcc : ns.length <= 10
  ·have g1 : ¬ (10 : Int) < (ns.length : Int) := by omega
   clear hcc
   go_wp2_with fail
   go_roundw
   case rel => exact ⟨k + 1, by omega, by go_num, by first | trivial | rfl⟩
   case measure => simp [intOf]; omega
  ·have g1 : (10 : Int) < (ns.length : Int) := by omega
   clear hcc
   go_wp2_with fail
   go_ret
   exact HNO.out _ HB.out
 have m1 : ¬ (k : Int) < (nx.length : Int) := by omega
 go_wp2_with fail
 go_ret
 exact ⟨⟨true, rfl, fun _ => ⟨HF1.out, H6.out⟩⟩, HNB.out _ HB.out⟩
def RowOk (es : List (Nat × Nat × Int)) (N a : Nat) (B : Int) (ys : List Int) : Prop := ys.length = N /\ ∀ b v, ys[b]? = some v -> v = -1 ∨ 0 <= v /\ v <= B /\ Wlk es a b v
theorem RowOk.mono {es : List (Nat × Nat × Int)} {N a : Nat} {B C : Int} {ys : List Int} (h : RowOk es N a B ys) (hB : B <= C) : RowOk es N a C ys :=
 ⟨h.1, fun b v hv => (h.2 b v hv).imp id fun ⟨x, y, z⟩ => ⟨x, by omega, z⟩⟩
theorem RowOk.set {es : List (Nat × Nat × Int)} {N a b : Nat} {B v : Int} {ys : List Int} (h : RowOk es N a B ys) (h0 : 0 <= v) (h1 : v <= B) (hw : Wlk es a b v) : RowOk es N a B (ys.set b v) := by
 refine ⟨by rw [List.length_set]; exact h.1, fun c u hu => ?_⟩
 by_cases hc : b = c
 ·subst hc
  rw [List.getElem?_set_self'] at hu
  cases hy : ys[b]? with
  | none => rw [hy] at hu; cases hu
  | some y =>
   rw [hy] at hu
   cases hu
   exact .inr ⟨h0, h1, hw⟩
 ·rw [List.getElem?_set_ne hc] at hu
  exact h.2 c u hu
theorem RowOk.init {es : List (Nat × Nat × Int)} (N a : Nat) : RowOk es N a 0 ((List.replicate N (-1)).set a 0) := by
 have h : RowOk es N a 0 (List.replicate N (-1)) := ⟨by simp, fun b v hv => by
  have := List.mem_of_getElem? hv
  exact .inl (List.eq_of_mem_replicate this)⟩
 exact h.set (Int.le_refl _) (Int.le_refl _) (Wlk.nil a)
theorem Wlk.snoc {es : List (Nat × Nat × Int)} {a b c : Nat} {L K : Int} (h : Wlk es a b L) (k : (b, c, K) ∈ es) : Wlk es a c (L + K) := by
 have := Wlk.cons k (Wlk.nil (es := es) c)
 rw [Int.add_zero] at this
 exact h.trans this
def DRows (w : World) (B : Nat) (v : Value) (es : List (Nat × Nat × Int)) (N k : Nat) : Prop :=
 ∃ rows : List NsC, rows.length = k /\ w.ownsRow B 46 1 v k (rows.map slI) /\ ∀ j r, rows[j]? = some r -> (∃ g, r.A = some ⟨g, 0, none⟩ /\ B <= g /\ g < w.heap.size /\ v.ownBlock ≠ some g) /\ Rd w r.A (r.ns.map iV) /\ ∃ C, RowOk es N j C r.ns
theorem DRows.form {w : World} {B N k : Nat} {v : Value} {es : List (Nat × Nat × Int)} (h : DRows w B v es N k) : ∃ A c, v = .slice A k c := by
 obtain ⟨rows, h1, h2, h3⟩ := h
 exact own_form h2
structure Mk (w0 : World) (N : Nat) (ys : List Int) (w : World) : Prop where
 own : w.ownsRow w0.heap.size 3 1 (.slice (some ⟨w0.heap.size, 0, none⟩) N N) N (ys.map iV)
 bel : Below w0.heap.size w0 w
 lt : w0.heap.size < w.heap.size
theorem Mk.set {w0 w : World} {N : Nat} {ys : List Int} (h : Mk w0 N ys w) (j : Nat) (v : Int) : Mk w0 N (ys.set j v) (w.setCell ⟨w0.heap.size, j, none⟩ (iV v)) := by
 refine ⟨?_, h.bel.setCell (Nat.le_refl _) _, by simp; exact h.lt⟩
 have := own_store h.own j (iV v)
 rwa [<- List.map_set] at this
theorem Mk.alloc {w0 w : World} {N : Nat} {ys : List Int} (h : Mk w0 N ys w) (o : Obj) : Mk w0 N ys (w.alloc o) :=
 ⟨h.own.alloc o, h.bel.alloc h.bel.size _, by simp; have := h.lt; omega⟩
theorem Mk.drewN {w0 w : World} {N : Nat} {ys : List Int} (h : Mk w0 N ys w) (q : Nat) : Mk w0 N ys (w.drewN q) :=
 ⟨own_below h.own (below_drewN (Below.refl _ _) q), below_drewN h.bel q, h.lt⟩
theorem Mk.drew {w0 w : World} {N : Nat} {ys : List Int} (h : Mk w0 N ys w) : Mk w0 N ys w.drew :=
 ⟨own_below h.own (b_drew (Below.refl _ _)), b_drew h.bel, h.lt⟩
theorem Mk.cell {w0 w : World} {N : Nat} {ys : List Int} (h : Mk w0 N ys w) {j : Nat} {v : Int} (hj : ys[j]? = some v) : w.cell? ⟨w0.heap.size, j, none⟩ = some (iV v) /\ w.frozen? ⟨w0.heap.size, j, none⟩ = false := by
 have hl := h.own.1
 have hlt : j < ys.length := (List.getElem?_eq_some_iff.1 hj).1
 obtain ⟨g, hg, -, -, hf, hc⟩ := own_blk h.own (by rw [List.length_map] at hl; omega)
 cases hg
 exact ⟨hc j _ (by rw [List.getElem?_map, hj]; rfl), hf j⟩
theorem DRows.push {w0 w w' : World} {B N k : Nat} {A A' : Option Addr} {c c' : Nat} {es : List (Nat × Nat × Int)} {ys : List Int} {C : Int} {rows : List NsC} (h1 : rows.length = k) (h2 : w0.ownsRow B 46 1 (.slice A k c) k (rows.map slI)) (h3 : ∀ j r, rows[j]? = some r -> (∃ g, r.A = some ⟨g, 0, none⟩ /\ B <= g /\ g < w0.heap.size /\ (Value.slice A k c).ownBlock ≠ some g) /\ Rd w0 r.A (r.ns.map iV) /\ ∃ C, RowOk es N j C r.ns) (m : Mk w0 N ys w) (hr : RowOk es N k C ys) (hB : B <= w0.heap.size)
  (ho : w'.ownsRow B 46 1 (.slice A' (k + 1) c') (k + 1) (rows.map slI ++ [.slice (some ⟨w0.heap.size, 0, none⟩) N N]))
  (hg : w.grownBy w' (Value.slice A k c).ownBlock) (hb : (Value.slice A' (k + 1) c').ownBlock = (Value.slice A k c).ownBlock ∨ ∃ q, (Value.slice A' (k + 1) c').ownBlock = some q /\ w.heap.size <= q) : DRows w' B (.slice A' (k + 1) c') es N (k + 1) := by
 have hlen : ys.length = N := hr.1
 have hne : ∀ g, g < w.heap.size -> (Value.slice A k c).ownBlock ≠ some g -> (Value.slice A' (k + 1) c').ownBlock ≠ some g := fun g hg hn e => by
  rcases hb with hb | ⟨q, hb, hq⟩
  ·exact hn (hb.symm.trans e)
  ·rw [hb] at e
   cases e
   omega
 have hR : (Value.slice A k c).ownBlock ≠ some w0.heap.size := fun e => by
  have := (h2.lt _ e).2
  omega
 refine ⟨rows ++ [⟨ys, some ⟨w0.heap.size, 0, none⟩, N⟩], by simp [h1], ?_, fun j r hj => ?_⟩
 ·have : (rows ++ [(⟨ys, some ⟨w0.heap.size, 0, none⟩, N⟩ : NsC)]).map slI = rows.map slI ++ [.slice (some ⟨w0.heap.size, 0, none⟩) N N] := by simp [hlen]
  rw [this]
  exact ho
 ·rcases Nat.lt_or_ge j rows.length with hlt | hge
  ·rw [List.getElem?_append_left hlt] at hj
   obtain ⟨⟨g, a, o, b, e⟩, d, f⟩ := h3 j r hj
   have b' : g < w.heap.size := Nat.lt_trans b m.lt
   refine ⟨⟨g, a, o, Nat.lt_of_lt_of_le b' hg.size, hne g b' e⟩, (d.below m.bel).same hg.size (fun x hx hxl => ?_), f⟩
   rw [a] at hx
   cases hx
   exact hg.block _ hxl (fun q => e q.symm)
  ·have hj2 : j = rows.length := by
    have := (List.getElem?_eq_some_iff.1 hj).1
    simp at this
    omega
   subst hj2
   rw [List.getElem?_append_right (Nat.le_refl _)] at hj
   simp at hj
   subst hj
   refine ⟨⟨w0.heap.size, rfl, hB, Nat.lt_of_lt_of_le m.lt hg.size, hne _ m.lt hR⟩, (rd_own m.own).same hg.size (fun x hx hxl => ?_), C, by rw [h1]; exact hr⟩
   cases hx
   exact hg.block _ hxl (fun q => hR q.symm)
def DistR (w : World) (n : Net) (e : Ending) (w' : World) : Prop :=
 ∃ (A : Option Addr) (c : Nat) (rows : List NsC), e = .returned (.slice A n.offs.length c) /\ rows.length = n.offs.length /\ Rd w' A (rows.map slI) /\ (∀ a, A = some a -> w.heap.size <= a.block /\ a.block < w'.heap.size) /\ (∀ j r, rows[j]? = some r -> (∃ g, r.A = some ⟨g, 0, none⟩ /\ w.heap.size <= g /\ g < w'.heap.size) /\ Rd w' r.A (r.ns.map iV) /\ ∃ C, RowOk (edgesOf n) n.offs.length j C r.ns) /\ Below w.heap.size w w'
theorem dist_any (n : Net) (w : World) (hn : NetIn w n) (hf : FewN n) (hc : Cons n) :
  Calls Tryz.prog 183 #[netV n] w (DistR w n) := by
 obtain ⟨i0, hi0, hz0, hz1, hz2⟩ := info_parts info_int
 obtain ⟨i1, hi1, hy0, hy1, hy2⟩ := info_parts info_ints
 have hb0 := ba w (netO n)
 have hx0 := heap_alloc_new w (netO n)
 have HNP : Hid (NetP (w.alloc (netO n)) w.heap.size n) := ⟨fun i v hv => (cell_of_row _ _ _ _ _ _ hx0).trans hv, hn.below hb0⟩
 have HNW := Lib.hid hn
 have HF := Lib.hid hf
 have HC := Lib.hid hc
 have HB0 := Lib.hid hb0
 have HWL : Hid (w.heap.size + 1 <= (w.alloc (netO n)).heap.size) := block_lt hx0
 have hN12 := hc.off.1
 have hL40 := hc.lin.1
 have HGL := Lib.hid hc.good.lin
 clear hn hf hc hb0 hx0
 go_enter Tryz.func183, Tryz.ntmps183
 go_upto_region 1 with fail
 change Code.wp _ _ _ _ (w.alloc (netO n))
 generalize (w.alloc (netO n)) = W at *
 generalize hX : w.heap.size = X at *
 have HX := Lib.hid hX; clear hX
 have HNB : Hid (∀ wr, Below (X + 1) W wr -> Below w.heap.size w wr /\ NetP wr X n) := fun wr hb => box_keep HNW.out HX.out HB0.out HNP.out.box hb
 have n0 : W.cell? ⟨X, 0, none⟩ = some (.slice n.calA n.cals.length n.calC) := HNP.out.box 0 _ rfl
 have n1 : W.cell? ⟨X, 1, none⟩ = some (.slice n.namA n.names.length n.namC) := HNP.out.box 1 _ rfl
 have n2 : W.cell? ⟨X, 2, none⟩ = some (.slice n.opA n.ops.length n.opC) := HNP.out.box 2 _ rfl
 have n3 : W.cell? ⟨X, 3, none⟩ = some (.slice n.offA n.offs.length n.offC) := HNP.out.box 3 _ rfl
 have n4 : W.cell? ⟨X, 4, none⟩ = some (.slice n.linA n.lins.length n.linC) := HNP.out.box 4 _ rfl
 have n5 : W.cell? ⟨X, 5, none⟩ = some (.slice n.clsA n.clss.length n.clsC) := HNP.out.box 5 _ rfl
 go_wp2_with fail
 refine (consist_any n _ HNP.out.net HF.out).mono ?_
 rintro e w1 ⟨⟨b, rfl, hb⟩, hbl⟩
 obtain rfl : b = true := hb.2 HC.out
 have HB1 : Hid (Below (X + 1) W w1) := hbl.mono HWL.out
 clear hb hbl n0 n1 n2 n3 n4 n5
 go_wp2_with fail
 go_loopw [4, 3] (fun i v wr => ∃ k : Nat, k <= n.offs.length /\ i = iV k /\ Hid (DRows wr (X + 1) v (edgesOf n) n.offs.length k) /\ Hid (Below (X + 1) W wr)) (fun i _ _ => 60 - (intOf i).toNat)
 case atStart => exact ⟨0, by omega, rfl, ⟨[], rfl, World.ownsRow_nil _ _ _ _, fun j r h => by simp at h⟩, HB1.out⟩
 case round =>
 clear HB1
 obtain ⟨k, hk, rfl, HD, HB⟩ := hrel
 obtain ⟨A2, c2, rfl⟩ := HD.out.form
 obtain ⟨w0, hw0⟩ : ∃ w0, w0 = wr := ⟨_, rfl⟩
 subst hw0
 have k0 : (0 : Int) <= (k : Int) := by omega
 have n3 : w0.cell? ⟨X, 3, none⟩ = some (.slice n.offA n.offs.length n.offC) := (HNB.out _ HB.out).2.box 3 _ rfl
 by_cases hlt : k < n.offs.length
 case neg =>
  have k1 : ¬ (k : Int) < (n.offs.length : Int) := by omega
  have hkk : k = n.offs.length := by omega
  have HKK := Lib.hid hkk; clear hkk
  go_wp2_with fail
  go_ret
  obtain ⟨rows, h1, h2, h3⟩ := HD.out
  exact ⟨A2, c2, rows, by rw [<- HKK.out]; rfl, by rw [h1, HKK.out], rd_own h2, (fun a ha => by have := own_fresh h2 a ha; have h5 := HX.out; exact ⟨by omega, this.2⟩), (fun j r hr => by obtain ⟨⟨g, a, o, b, -⟩, d⟩ := h3 j r hr; have h5 := HX.out; exact ⟨⟨g, a, by omega, b⟩, d⟩), (HNB.out _ HB.out).1⟩
 have k1 : (k : Int) < (n.offs.length : Int) := by omega
 go_wp2_with (refine wpList_make_full _ (by rfl) (.tmp 22) (.tmp 22) 46 (by rfl) w0.heap.size 3 i0 _ 1 Tryz.underlying46 hi0 hz0 hz1 .i64 .i64 (n.offs.length : Int) (n.offs.length : Int) n.offs.length (by rfl) (by rfl) rfl rfl (by rw [hz2]; omega) (by unfold maxLen; omega) (Nat.le_refl _) ?_; intro w1 ho hg; have HO1 := Lib.hid ho; have HB1 := Lib.hid (below_none hg); clear ho hg)
 clear n3
 have hlt1 : w0.heap.size < w1.heap.size := by
  rcases HO1.out.2 with ⟨h, _⟩ | ⟨g, cap, cur, h, _, hg, _⟩
  ·cases h
  ·cases h
   exact block_lt hg
 have HL1 := Lib.hid hlt1; clear hlt1
 go_loopw [6] (fun i wr => ∃ (q : Nat) (xs : List Value), q <= n.offs.length /\ i = iV q /\ Hid (wr.ownsRow w0.heap.size 3 1 (.slice (some ⟨w0.heap.size, 0, none⟩) n.offs.length n.offs.length) n.offs.length xs) /\ Hid (∀ b < q, xs[b]? = some (iV (-1))) /\ Hid (Below w0.heap.size w0 wr) /\ Hid (w0.heap.size < wr.heap.size)) (fun i _ => 60 - (intOf i).toNat)
 case atStart => exact ⟨0, _, by omega, rfl, HO1.out, (fun b hb => by omega), HB1.out, HL1.out⟩
 case round =>
 clear HO1 HB1 HL1
 obtain ⟨q, xs, hq, rfl, HO, HQ, HBW, HL⟩ := hrel
 have q0 : (0 : Int) <= (q : Int) := by omega
 by_cases hqt : q < n.offs.length
 case pos =>
  have q1 : (q : Int) < (n.offs.length : Int) := by omega
  have hlen := HO.out.1
  obtain ⟨g, hge, -, -, hfz, hcell⟩ := own_blk HO.out (by omega)
  cases hge
  obtain ⟨z0, hz0'⟩ : ∃ u, xs[q]? = some u := ⟨_, List.getElem?_eq_getElem (by omega)⟩
  have hck : wr.cell? ⟨w0.heap.size, q, none⟩ = some z0 := hcell q _ hz0'
  have hfk := hfz q
  have HO3 : Hid ((wr.setCell ⟨w0.heap.size, q, none⟩ (iV (-1))).ownsRow w0.heap.size 3 1 (.slice (some ⟨w0.heap.size, 0, none⟩) n.offs.length n.offs.length) n.offs.length (xs.set q (iV (-1)))) := own_store HO.out q (iV (-1))
  have HB3 : Hid (Below w0.heap.size w0 (wr.setCell ⟨w0.heap.size, q, none⟩ (iV (-1)))) := HBW.out.setCell (Nat.le_refl _) _
  have HL3 : Hid (w0.heap.size < (wr.setCell ⟨w0.heap.size, q, none⟩ (iV (-1))).heap.size) := by show _ < _; simp; exact HL.out
  have HQ3 : Hid (∀ b < q + 1, (xs.set q (iV (-1)))[b]? = some (iV (-1))) := fun b hb => by
   by_cases hbq : b = q
   ·subst hbq
    rw [List.getElem?_set_self (by omega)]
   ·rw [List.getElem?_set_ne (by omega)]
    exact HQ.out b (by omega)
  clear hz0' hcell hfz HO HQ HBW HL hlen
  go_wp2_with fail
  go_roundw
  case rel => exact ⟨q + 1, xs.set q (iV (-1)), by omega, by go_num, HO3.out, HQ3.out, HB3.out, HL3.out⟩
  case measure => simp [intOf]; omega
 have q1 : ¬ (q : Int) < (n.offs.length : Int) := by omega
 have hxs : xs = (List.replicate n.offs.length (-1)).map iV := by
  have hl := HO.out.1
  rw [Nat.mul_one] at hl
  refine List.ext_getElem? fun b => ?_
  by_cases hb : b < n.offs.length
  ·rw [HQ.out b (by omega)]
   simp [hb]
  ·rw [List.getElem?_eq_none (by omega), List.getElem?_eq_none (by simp; omega)]
 have HM0 : Hid (Mk w0 n.offs.length (List.replicate n.offs.length (-1)) wr) := ⟨by rw [<- hxs]; exact HO.out, HBW.out, HL.out⟩
 have HM1 := Lib.hid (HM0.out.set k 0)
 obtain ⟨ck, fk⟩ := HM0.out.cell (j := k) (v := -1) (by simp [hlt])
 clear hxs HO HQ HBW HL hq q0
 go_wp2_with fail
 clear ck fk q1
 go_loopw [7] (fun i wr => ∃ (r : Nat) (ys : List Int), r <= n.offs.length /\ i = iV r /\ Hid (Mk w0 n.offs.length ys wr) /\ Hid (RowOk (edgesOf n) n.offs.length k (5000 * (64 * (r : Int))) ys)) (fun i _ => 60 - (intOf i).toNat)
 case atStart => exact ⟨0, _, by omega, rfl, HM1.out, RowOk.init _ _⟩
 case round =>
 clear HM0 HM1
 obtain ⟨r, ys, hr, rfl, HM, HR⟩ := hrel
 have r0 : (0 : Int) <= (r : Int) := by omega
 by_cases hrt : r < n.offs.length
 case neg =>
  have r1 : ¬ (r : Int) < (n.offs.length : Int) := by omega
  obtain ⟨rows, d1, d2, d3⟩ := HD.out
  have D1 := Lib.hid d1
  have D2 := Lib.hid d2
  have D3 := Lib.hid d3
  have HO2 := Lib.hid (own_below d2 HM.out.bel)
  have HWB : Hid (X + 1 <= w0.heap.size) := Nat.le_trans HWL.out HB.out.size
  clear d1 d2 d3
  go_wp2_with (refine wpList_app (by rfl) (.tmp 96) (.tmp 98) 30 30 (by rfl) (X + 1) 46 i1 _ 1 24 Tryz.underlying30 hi1 hy0 hy1 hy2 (by rfl) _ k _ (by rfl) (HO2.out.alloc (.cells #[.slice (some ⟨w0.heap.size, 0, none⟩) n.offs.length n.offs.length] 46)) _ (by rfl) 1 [.slice (some ⟨w0.heap.size, 0, none⟩) n.offs.length n.offs.length] (src_k 1 Tryz.underlying30 (Rd.new _ [.slice (some ⟨w0.heap.size, 0, none⟩) n.offs.length n.offs.length] _) rfl (by simp [Value.oneCell'])) (by unfold maxLen; omega) (by omega) (by have := HWB.out; have := HM.out.lt; simp; omega) ?_; intro A5 c5 w4 ho hgr hbl; have HD4 := Lib.hid (DRows.push D1.out D2.out D3.out (HM.out.alloc _) HR.out HWB.out ho hgr (hbl.imp id fun e => ⟨_, e, Nat.le_refl _⟩)); have HB4 : Hid (Below (X + 1) W w4) := app_below (HB.out.trans ((HM.out.bel.mono HWB.out).alloc (Nat.le_trans HWB.out (Nat.le_of_lt HM.out.lt)) _)) HWL.out (HO2.out.alloc _) (Nat.le_refl _) hgr; clear ho hgr hbl)
  go_roundw
  case rel => exact ⟨k + 1, by omega, by go_num, HD4.out, HB4.out⟩
  case measure => simp [intOf]; omega
 have r1 : (r : Int) < (n.offs.length : Int) := by omega
 go_wp2_with fail
 go_loopw [8] (fun i wr => ∃ (q : Nat) (ys : List Int), q <= n.lins.length /\ i = iV q /\ Hid (Mk w0 n.offs.length ys wr) /\ Hid (RowOk (edgesOf n) n.offs.length k (5000 * (64 * (r : Int) + (q : Int))) ys)) (fun i _ => 60 - (intOf i).toNat)
 case atStart => exact ⟨0, ys, by omega, rfl, HM.out, HR.out.mono (by omega)⟩
 case round =>
 clear HM HR
 obtain ⟨q, ys, hq, rfl, HM, HR⟩ := hrel
 have q0 : (0 : Int) <= (q : Int) := by omega
 have HNQ : Hid (NetP wr X n) := (HNB.out _ (HB.out.trans (HM.out.bel.mono (Nat.le_trans HWL.out HB.out.size)))).2
 have n4 : wr.cell? ⟨X, 4, none⟩ = some (.slice n.linA n.lins.length n.linC) := HNQ.out.box 4 _ rfl
 by_cases hqt : q < n.lins.length
 case neg =>
  have q1 : ¬ (q : Int) < (n.lins.length : Int) := by omega
  have HR2 := Lib.hid (HR.out.mono (C := 5000 * (64 * ((r + 1 : Nat) : Int))) (by omega))
  go_wp2_with fail
  go_roundw
  case rel => exact ⟨r + 1, ys, by omega, by go_num, HM.out, HR2.out⟩
  case measure => simp [intOf]; omega
 have q1 : (q : Int) < (n.lins.length : Int) := by omega
 have hx : n.lins[q]? = some (linAt n q) := linAt_get hqt
 have hg := HGL.out _ (List.mem_of_getElem? hx)
 have hed : ((linAt n q).frm.toNat, (linAt n q).to.toNat, (linAt n q).travel) ∈ edgesOf n := List.mem_map.2 ⟨_, List.mem_of_getElem? hx, rfl⟩
 obtain ⟨-, lb, lo, hlA, -, hc0, hcc⟩ := elem_at encLin_len HNQ.out.net.lins hx (by omega)
 have x0 := hc0 _ rfl
 have x1 := hcc 1 _ rfl
 have x2 := hcc 2 _ rfl
 have x3 := hcc 3 _ rfl
 have x4 := hcc 4 _ rfl
 have x5 := hcc 5 _ rfl
 rw [hlA] at n4
 clear hc0 hcc hlA hx
 generalize linAt n q = L at *
 obtain ⟨lname, lf, lt, la, ltr, lld⟩ := L
 obtain ⟨⟨f0, f1⟩, ⟨t0, t1⟩, -, -, tr0, tr1⟩ := hg
 obtain ⟨f, rfl⟩ := Int.eq_ofNat_of_zero_le f0
 obtain ⟨t, rfl⟩ := Int.eq_ofNat_of_zero_le t0
 dsimp only at *
 have hf12 : f < n.offs.length := by omega
 have ht12 : t < n.offs.length := by omega
 simp only [Int.toNat_natCast] at hed
 have HED := Lib.hid hed; clear hed
 have hyl := HR.out.1
 obtain ⟨vf, hvf⟩ : ∃ v, ys[f]? = some v := ⟨_, List.getElem?_eq_getElem (by omega)⟩
 obtain ⟨vt, hvt⟩ : ∃ v, ys[t]? = some v := ⟨_, List.getElem?_eq_getElem (by omega)⟩
 have HVF := Lib.hid (HR.out.2 f vf hvf)
 have HVT := Lib.hid (HR.out.2 t vt hvt)
 have rvf : -1 <= vf /\ vf <= 5000 * (64 * (r : Int) + (q : Int)) := by rcases HVF.out with h | ⟨a, b, -⟩ <;> omega
 have rvt : -1 <= vt /\ vt <= 5000 * (64 * (r : Int) + (q : Int)) := by rcases HVT.out with h | ⟨a, b, -⟩ <;> omega
 go_upto_region 20 with fail
 have HM3 := Lib.hid (HM.out.alloc (.cells #[sV lname, iV f, iV t, iV la, iV ltr, iV lld] 52))
 have hLN := heap_alloc_new wr (.cells #[sV lname, iV f, iV t, iV la, iV ltr, iV lld] 52)
 have b1 : (wr.alloc (.cells #[sV lname, iV f, iV t, iV la, iV ltr, iV lld] 52)).cell? ⟨wr.heap.size, 1, none⟩ = some (iV f) := cell_of_row _ _ 1 _ _ _ hLN
 have b2 : (wr.alloc (.cells #[sV lname, iV f, iV t, iV la, iV ltr, iV lld] 52)).cell? ⟨wr.heap.size, 2, none⟩ = some (iV t) := cell_of_row _ _ 2 _ _ _ hLN
 have b4 : (wr.alloc (.cells #[sV lname, iV f, iV t, iV la, iV ltr, iV lld] 52)).cell? ⟨wr.heap.size, 4, none⟩ = some (iV ltr) := cell_of_row _ _ 4 _ _ _ hLN
 obtain ⟨rf, -⟩ := HM3.out.cell hvf
 obtain ⟨rt, ft⟩ := HM3.out.cell hvt
 change Code.wp _ _ _ _ (wr.alloc (.cells #[sV lname, iV f, iV t, iV la, iV ltr, iV lld] 52))
 clear hLN n4 x0 x1 x2 x3 x4 x5 HNQ HM hvf hvt
 generalize (wr.alloc (.cells #[sV lname, iV f, iV t, iV la, iV ltr, iV lld] 52)) = W3 at *
 generalize wr.heap.size = Y at *
 have f2 : (0 : Int) <= (f : Int) := by omega
 have t2 : (0 : Int) <= (t : Int) := by omega
 have e1 : IntKind.i64.wrap (vf + ltr) = vf + ltr := IntWalk.i64_in _ (by omega)
 by_cases hv0 : 0 <= vf
 case neg =>
  have g1 : decide (0 <= vf) = false := by simpa using hv0
  have HR2 := Lib.hid (HR.out.mono (C := 5000 * (64 * (r : Int) + ((q + 1 : Nat) : Int))) (by omega))
  go_wp2_with fail
  go_quiet (fail)
  go_wp2_with fail
  go_roundw
  case rel => exact ⟨q + 1, ys, by omega, by go_num, HM3.out.drewN _, HR2.out⟩
  case measure => simp [intOf]; omega
 have HWK : Hid (Wlk (edgesOf n) k t (vf + ltr)) := by
  rcases HVF.out with h | ⟨-, -, h⟩
  ·exfalso; omega
  ·exact h.snoc HED.out
 have HR2 := Lib.hid ((HR.out.mono (C := 5000 * (64 * (r : Int) + ((q + 1 : Nat) : Int))) (by omega)).set (b := t) (v := vf + ltr) (by omega) (by omega) HWK.out)
 have HR3 := Lib.hid (HR.out.mono (C := 5000 * (64 * (r : Int) + ((q + 1 : Nat) : Int))) (by omega))
 by_cases hv1 : vt < 0
 case pos =>
  go_wp2_with fail
  go_quiet (fail)
  go_wp2_with fail
  have HM4 := Lib.hid (HM3.out.drewN nq)
  have d1 : (W3.drewN nq).cell? ⟨Y, 1, none⟩ = some (iV f) := b1
  have d2 : (W3.drewN nq).cell? ⟨Y, 2, none⟩ = some (iV t) := b2
  have d4 : (W3.drewN nq).cell? ⟨Y, 4, none⟩ = some (iV ltr) := b4
  have df : (W3.drewN nq).cell? ⟨w0.heap.size, f, none⟩ = some (iV vf) := rf
  have dt : (W3.drewN nq).cell? ⟨w0.heap.size, t, none⟩ = some (iV vt) := rt
  have dz : (W3.drewN nq).frozen? ⟨w0.heap.size, t, none⟩ = false := ft
  clear b1 b2 b4 rf rt ft
  generalize W3.drewN nq = W4 at *
  go_still_tail 12, (by kernel_rfl)
  go_wp2_with fail
  go_roundw
  case rel => exact ⟨q + 1, ys.set t (vf + ltr), by omega, by go_num, (HM4.out.set _ _).drew, HR2.out⟩
  case measure => simp [intOf]; omega
 by_cases hv2 : vf + ltr < vt
 case neg =>
  have g3 : decide (vf + ltr < vt) = false := by simpa using hv2
  go_wp2_with fail
  go_quiet (fail)
  go_wp2_with fail
  go_roundw
  case rel => exact ⟨q + 1, ys, by omega, by go_num, HM3.out.drewN _, HR3.out⟩
  case measure => simp [intOf]; omega
 go_wp2_with fail
 go_quiet (fail)
 go_wp2_with fail
 have HM4 := Lib.hid (HM3.out.drewN nq)
 have d1 : (W3.drewN nq).cell? ⟨Y, 1, none⟩ = some (iV f) := b1
 have d2 : (W3.drewN nq).cell? ⟨Y, 2, none⟩ = some (iV t) := b2
 have d4 : (W3.drewN nq).cell? ⟨Y, 4, none⟩ = some (iV ltr) := b4
 have df : (W3.drewN nq).cell? ⟨w0.heap.size, f, none⟩ = some (iV vf) := rf
 have dt : (W3.drewN nq).cell? ⟨w0.heap.size, t, none⟩ = some (iV vt) := rt
 have dz : (W3.drewN nq).frozen? ⟨w0.heap.size, t, none⟩ = false := ft
 clear b1 b2 b4 rf rt ft
 generalize W3.drewN nq = W4 at *
 go_still_tail 12, (by kernel_rfl)
 go_wp2_with fail
 go_roundw
 case rel => exact ⟨q + 1, ys.set t (vf + ltr), by omega, by go_num, (HM4.out.set _ _).drew, HR2.out⟩
 case measure => simp [intOf]; omega
end Go.Proofs.YtpeaiphdkgifaaaGreatDoor
