/- The walks over the reference's Small, Few, Lines, within. (Printed by -/
import Derived.Test.YtpeaiphdkgifaaaGreatDoorVas
namespace Go.Proofs.YtpeaiphdkgifaaaGreatDoor
open Go.RowKit
set_option maxHeartbeats 20000000
set_option maxRecDepth 100000
theorem jO (i m : Int) (w : World) : Calls Tryz.prog 144 #[iV i, iV m] w fun e w' => e = .returned (.bool (decide (0 <= i) && decide (i < m))) /\ w = w' := by
 by_cases h : 0 <= i
 ·have HR : Hid ((decide (0 <= i) && decide (i < m)) = decide (i < m)) := by show _ = _; simp [h]
  go_enter Tryz.func144, Tryz.ntmps144
  go_wp2
  go_ret
  exact ⟨ah HR.out.symm, rfl⟩
 ·have HR : Hid ((decide (0 <= i) && decide (i < m)) = false) := by show _ = _; simp [h]
  go_enter Tryz.func144, Tryz.ntmps144
  go_wp2
  go_ret
  exact ⟨ah HR.out.symm, rfl⟩
def ij (Q : Bool -> Prop) (e : Ending) : Prop := ∃ b, e = .returned (.bool b) /\ Q b
theorem q7 (c : Cal) (w : World) (hc : cP w c) :
  Calls Tryz.prog 180 #[eI c] w fun e w' => ij (fun _ => True) e /\ Below w.heap.size w w' := by
 obtain ⟨-, -, -, -, hl1, hl2⟩ := hc
 have HB := aB (ba w (.cells (dZ c).toArray 110))
 unfold maxLen at hl1 hl2
 have hbox := oY w c 110
 unfold dZ at HB hbox
 obtain ⟨k0, k1, k2⟩ := hbox
 by_cases h : c.week.length <= 20
 ·have i1 : (c.week.length : Int) <= 20 := by omega
  clear h
  go_enter Tryz.func180, Tryz.ntmps180
  go_wp2
  go_ret
  exact ⟨⟨_, rfl, trivial⟩, HB.out⟩
 ·have i1 : ¬ (c.week.length : Int) <= 20 := by omega
  clear h
  go_enter Tryz.func180, Tryz.ntmps180
  go_wp2
  go_ret
  exact ⟨⟨_, rfl, trivial⟩, HB.out⟩
theorem ub (n : Net) (A : Option Addr) (c : Nat) (nx : List NsC) (w : World) (hn : bj w n) (hT : Tab w A nx) (hx : nx.length <= maxLen) :
  Calls Tryz.prog 85 #[bB n, .slice A nx.length c] w fun e w' => e = .returned (.bool (formB n nx)) /\ Below w.heap.size w w' := by
 have hf1 := hn.lens.2.2.2.1
 have hf2 := hn.lens.2.2.2.2.1
 have hb0 := ba w (ae n)
 have hx0 := aC w (ae n)
 have hN : br (w.alloc (ae n)) w.heap.size n := ⟨fun i v hv => (aA _ hx0).trans hv, hn.below hb0⟩
 have n3 : (w.alloc (ae n)).cell? (aV w.heap.size 3) = some (.slice n.offA n.offs.length n.offC) := hN.box 3 _ rfl
 have n4 : (w.alloc (ae n)).cell? (aV w.heap.size 4) = some (.slice n.linA n.lins.length n.linC) := hN.box 4 _ rfl
 have HN := aB hN; clear hN
 have HT := aB (hT.below hb0); clear hT
 have HB0 := aB hb0
 clear hn hb0 hx0
 unfold maxLen at hx hf1 hf2
 by_cases hlen : nx.length = n.offs.length
 ·have i1 : ((nx.length : Int) != (n.offs.length : Int)) = false := by simp; omega
  have i1' : ((nx.length : Int) == (n.offs.length : Int)) = true := by simp; omega
  have HLEN := aB hlen
  go_enter Tryz.func85, Tryz.ntmps85
  go_upto_region 1 with fail
  change Code.wp _ _ _ _ (w.alloc (ae n))
  generalize (w.alloc (ae n)) = W at *
  go_wp2
  clear hlen
  go_loopw [5] (fun i wr => ∃ k q : Nat, k <= nx.length /\ i = iV k /\ wr = W.drewN q /\ Hid (∀ o r, o < k -> nx[o]? = some r -> r.ns.length = n.offs.length /\ ∀ l ∈ r.ns, dE n o l)) (fun i _ => nx.length + 1 - (intOf i).toNat)
  case atStart => exact ⟨0, 0, by omega, rfl, rfl, fun o r h => by omega⟩
  case round =>
   obtain ⟨k, q, hk, rfl, rfl, HS⟩ := hrel
   have j0 : (0 : Int) <= (k : Int) := by omega
   by_cases hlt : k < nx.length
   ·have j1 : (k : Int) < (nx.length : Int) := by omega
    have hr : nx[k]? = some nx[k] := aD _
    generalize nx[k] = r at hr
    obtain ⟨ns, rA, rc⟩ := r
    have HTr : Hid (Rd W rA (ns.map iV) /\ (∀ n ∈ ns, I64 n) /\ ns.length <= maxLen) := HT.out.row _ (aF hr)
    obtain ⟨nb, no, hnA, -, hnc⟩ := HT.out.rd.get (i := k) (by rw [List.length_map]; exact hlt)
    have x1 : W.cell? (aV nb (no + k)) = some (.slice rA ns.length rc) := hnc k _ (by rw [aS, hr]; rfl)
    have HNA := aB hnA
    have HRr := aB hr; clear hr hnc
    subst hnA
    have hrm := HTr.out.2.2
    unfold maxLen at hrm
    by_cases hrl : ns.length = n.offs.length
    ·have i2 : ((ns.length : Int) != (nx.length : Int)) = false := by have := HLEN.out; simp; omega
     have i2' : ((ns.length : Int) == (nx.length : Int)) = true := by have := HLEN.out; simp; omega
     have HRL := aB hrl; clear hrl
     go_wp2
     go_loopw [6] (fun i wr => ∃ m p : Nat, m <= ns.length /\ i = iV m /\ wr = W.drewN p /\ Hid (∀ j l, j < m -> ns[j]? = some l -> dE n k l)) (fun i _ => ns.length + 1 - (intOf i).toNat)
     case atStart => exact ⟨0, _, by omega, rfl, rfl, fun o r h => by omega⟩
     case round =>
      obtain ⟨m, p, hm, rfl, rfl, HQ⟩ := hrel
      have m0 : (0 : Int) <= (m : Int) := by omega
      by_cases hmt : m < ns.length
      ·have m1 : (m : Int) < (ns.length : Int) := by omega
       have m1b : (m : Int) < (nx.length : Int) := by have := HLEN.out; have := HRL.out; omega
       have hl : ns[m]? = some ns[m] := aD _
       obtain ⟨rb, ro, hrA, -, hrc⟩ := HTr.out.1.get (i := m) (by rw [List.length_map]; exact hmt)
       have x2 : W.cell? (aV rb (ro + m)) = some (iV ns[m]) := hrc m _ (by simp [hmt])
       generalize ns[m] = l at hl x2
       have HL := aB hl; clear hl hrc
       have HRA := aB hrA
       subst hrA
       have HNO : Hid (¬ dE n k l -> formB n nx = false) := fun hno => eE (fun h => hno ((((ep n nx).1 h).2 k _ HRr.out).2 l (aF HL.out)))
       have HYES : Hid (dE n k l -> ∀ j l, j < m + 1 -> ns[j]? = some l -> dE n k l) := fun hy j l' hj hl' => by
        rcases Nat.lt_or_ge j m with h | h
        ·exact HQ.out j l' h hl'
        ·obtain rfl : j = m := by omega
         rw [HL.out] at hl'
         cases hl'
         exact hy
       by_cases hm1 : l = -1
       ·subst hm1
        go_wp2
        go_roundw
        case rel => exact ⟨m + 1, _, by omega, by go_num, rfl, HYES.out (.inl rfl)⟩
        case measure => simp [intOf]; omega
       ·have hm2 : (l != -1) = true := by simpa using hm1
        have hm3 : (l == -1) = false := by simpa using hm1
        have HM1 := aB hm1; clear hm1
        by_cases hin : 0 <= l /\ l < (n.lins.length : Int)
        ·obtain ⟨hp, hq⟩ := hin
         obtain ⟨li, rfl⟩ := aN hp
         have hq' : li < n.lins.length := by omega
         obtain ⟨-, lb, lo, hlA, -, -, hlc⟩ := ay bT HN.out.net.lins (bC hq') (by omega)
         have y1 : W.cell? (aV lb (lo + li * 6 + 1)) = some (iV (af n li).frm) := hlc 1 _ rfl
         clear hlc hq'
         rw [hlA] at n4
         have HB : Hid ((decide (0 <= (li : Int)) && decide ((li : Int) < (n.lins.length : Int))) = true) := by show _ = _; simp [hq]
         by_cases hfr : (af n li).frm = (k : Int)
         ·have f1 : ((af n li).frm != (k : Int)) = false := by simpa using hfr
          have f2 : ((af n li).frm == (k : Int)) = true := by simpa using hfr
          have HF := aB hfr; clear hfr
          go_wp2_with fail
          refine (jO _ _ _).mono ?_
          rintro e w2 ⟨rfl, rfl⟩
          rw [HB.out]
          go_wp2
          go_roundw
          case rel => exact ⟨m + 1, _, by omega, by go_num, rfl, HYES.out (.inr ⟨by omega, by omega, HF.out⟩)⟩
          case measure => simp [intOf]; omega
         ·have f1 : ((af n li).frm != (k : Int)) = true := by simpa using hfr
          have f2 : ((af n li).frm == (k : Int)) = false := by simpa using hfr
          have HR : Hid (formB n nx = false) := HNO.out (fun h => by
           rcases h with h | ⟨-, -, h⟩
           ·exact HM1.out h
           ·exact hfr h)
          clear hfr
          go_wp2_with fail
          refine (jO _ _ _).mono ?_
          rintro e w2 ⟨rfl, rfl⟩
          rw [HB.out]
          go_wp2
          go_ret
          exact ⟨ah HR.out.symm, ai HB0.out _⟩
        ·have HB : Hid ((decide (0 <= l) && decide (l < (n.lins.length : Int))) = false) := by
          show _ = _
          rw [Bool.eq_false_iff]
          intro h
          simp at h
          exact hin ⟨h.1, h.2⟩
         have HR : Hid (formB n nx = false) := HNO.out (fun h => by
          rcases h with h | ⟨h1, h2, -⟩
          ·exact HM1.out h
          ·exact hin ⟨h1, h2⟩)
         clear hin
         go_wp2_with fail
         refine (jO _ _ _).mono ?_
         rintro e w2 ⟨rfl, rfl⟩
         rw [HB.out]
         go_wp2
         go_ret
         exact ⟨ah HR.out.symm, ai HB0.out _⟩
      ·have m1 : ¬ (m : Int) < (nx.length : Int) := by have := HLEN.out; have := HRL.out; omega
       have HK1 : Hid (∀ o r, o < k + 1 -> nx[o]? = some r -> r.ns.length = n.offs.length /\ ∀ l ∈ r.ns, dE n o l) := fun o r' ho hr' => by
        rcases Nat.lt_or_ge o k with h | h
        ·exact HS.out o r' h hr'
        ·obtain rfl : o = k := by omega
         rw [HRr.out] at hr'
         cases hr'
         refine ⟨HRL.out, fun l hl => ?_⟩
         obtain ⟨j, hj, hjl⟩ := List.mem_iff_getElem.1 hl
         have hj2 : j < ns.length := hj
         exact HQ.out j l (by omega) (by rw [aD hj, hjl])
       go_wp2
       go_roundw
       case rel => exact ⟨k + 1, _, by omega, by go_num, rfl, HK1.out⟩
       case measure => simp [intOf]; omega
    ·have i2 : ((ns.length : Int) != (nx.length : Int)) = true := by have := HLEN.out; simp; omega
     have i2' : ((ns.length : Int) == (nx.length : Int)) = false := by have := HLEN.out; simp; omega
     have HR : Hid (formB n nx = false) := eE (fun h => hrl (((ep n nx).1 h).2 k _ HRr.out).1)
     clear hrl
     go_wp2
     go_ret
     exact ⟨ah HR.out.symm, ai HB0.out _⟩
   ·have j1 : ¬ (k : Int) < (nx.length : Int) := by omega
    have HR : Hid (formB n nx = true) := et.2 ((ep n nx).2 ⟨HLEN.out, fun o r hr => HS.out o r (by have := (aE.1 hr).1; omega) hr⟩)
    go_wp2
    go_ret
    exact ⟨ah HR.out.symm, ai HB0.out _⟩
 ·have i1 : ((nx.length : Int) != (n.offs.length : Int)) = true := by simp; omega
  have i1' : ((nx.length : Int) == (n.offs.length : Int)) = false := by simp; omega
  have HR : Hid (formB n nx = false) := eE (fun h => hlen h.1)
  clear hlen
  go_enter Tryz.func85, Tryz.ntmps85
  go_wp2
  go_ret
  exact ⟨ah HR.out.symm, HB0.out⟩
theorem few_any (n : Net) (w : World) (hn : bj w n) :
  Calls Tryz.prog 142 #[bB n] w fun e w' => ij (fun b => b = true -> gx n) e /\ Below w.heap.size w w' := by
 have hb0 := ba w (ae n)
 have hx0 := aC w (ae n)
 have hl := hn.lens
 unfold maxLen at hl
 have HNP : Hid (br (w.alloc (ae n)) w.heap.size n) := ⟨fun i v hv => (aA _ hx0).trans hv, hn.below hb0⟩
 have HNW := aB hn
 have HB0 := aB hb0
 have HWL : Hid (w.heap.size + 1 <= (w.alloc (ae n)).heap.size) := aa hx0
 clear hn hb0 hx0
 go_enter Tryz.func142, Tryz.ntmps142
 go_upto_region 1 with fail
 change Code.wp _ _ _ _ (w.alloc (ae n))
 generalize (w.alloc (ae n)) = W at *
 generalize hX : w.heap.size = X at *
 have HX := aB hX; clear hX
 have HNB : Hid (∀ wr, Below (X + 1) W wr -> Below w.heap.size w wr /\ br wr X n) := fun wr hb => cW HNW.out HX.out HB0.out HNP.out.box hb
 have HNO : Hid (∀ wr, Below (X + 1) W wr -> ij (fun b => b = true -> gx n) (.returned (.bool false)) /\ Below w.heap.size w wr) := fun wr hb => ⟨⟨false, rfl, fun h => by cases h⟩, (HNB.out wr hb).1⟩
 obtain ⟨n0, n1, n2, n3, n4, n5⟩ := jA HNP.out
 by_cases c_cals : n.cals.length <= 10
 case neg =>
  have i_cals : (10 : Int) < (n.cals.length : Int) := by omega
  go_wp2_with fail
  go_ret
  exact HNO.out _ (aJ _ _)
 have i_cals : ¬ (10 : Int) < (n.cals.length : Int) := by omega
 by_cases c_names : n.names.length <= 10
 case neg =>
  have i_names : (10 : Int) < (n.names.length : Int) := by omega
  go_wp2_with fail
  go_ret
  exact HNO.out _ (aJ _ _)
 have i_names : ¬ (10 : Int) < (n.names.length : Int) := by omega
 by_cases c_ops : n.ops.length <= 10
 case neg =>
  have i_ops : (10 : Int) < (n.ops.length : Int) := by omega
  go_wp2_with fail
  go_ret
  exact HNO.out _ (aJ _ _)
 have i_ops : ¬ (10 : Int) < (n.ops.length : Int) := by omega
 by_cases c_offs : n.offs.length <= 16
 case neg =>
  have i_offs : (16 : Int) < (n.offs.length : Int) := by omega
  go_wp2_with fail
  go_ret
  exact HNO.out _ (aJ _ _)
 have i_offs : ¬ (16 : Int) < (n.offs.length : Int) := by omega
 by_cases c_lins : n.lins.length <= 50
 case neg =>
  have i_lins : (50 : Int) < (n.lins.length : Int) := by omega
  go_wp2_with fail
  go_ret
  exact HNO.out _ (aJ _ _)
 have i_lins : ¬ (50 : Int) < (n.lins.length : Int) := by omega
 by_cases c_clss : n.clss.length <= 8
 case neg =>
  have i_clss : (8 : Int) < (n.clss.length : Int) := by omega
  go_wp2_with fail
  go_ret
  exact HNO.out _ (aJ _ _)
 have i_clss : ¬ (8 : Int) < (n.clss.length : Int) := by omega
 have HF : Hid (gx n) := ⟨c_cals, c_names, c_ops, c_offs, c_lins, c_clss⟩
 go_wp2_with fail
 clear n0 n1 n2 n3 n4 n5 i_names i_ops i_cals i_offs i_lins i_clss c_names c_ops c_lins c_clss hl
 go_loopw [3] (fun i wr => ∃ k : Nat, k <= n.cals.length /\ i = iV k /\ Hid (Below (X + 1) W wr)) (fun i _ => 60 - (intOf i).toNat)
 case atStart => exact ⟨0, by omega, rfl, aJ _ _⟩
 case round =>
 obtain ⟨k, hk, rfl, HB⟩ := hrel
 have k0 : (0 : Int) <= (k : Int) := by omega
 have hnp := (HNB.out _ HB.out).2
 have n0 : wr.cell? (aV X 0) = some (.slice n.calA n.cals.length n.calC) := hnp.box 0 _ rfl
 by_cases hlt : k < n.cals.length
 case pos =>
  have k1 : (k : Int) < (n.cals.length : Int) := by omega
  have hx : n.cals[k]? = some n.cals[k] := aD _
  generalize n.cals[k] = x at hx
  obtain ⟨-, b, off, hA, -, hc0, hc⟩ := ay fp hnp.net.cals hx (by omega)
  have x0 := hc0 _ rfl
  have x1 := hc 1 _ rfl
  have x2 := hc 2 _ rfl
  have HXC := aB (hnp.net.cal x (aF hx))
  rw [hA] at n0
  clear hA hc0 hc hx hnp
  go_wp2_with fail
  refine (q7 x _ HXC.out).mono ?_
  rintro e w2 ⟨⟨bb, rfl, -⟩, hb⟩
  have HB2 : Hid (Below (X + 1) W w2) := HB.out.trans (hb.mono (aG HWL.out HB.out.size))
  clear hb n0 x0 x1 x2
  cases bb
  ·go_wp2_with fail
   go_ret
   exact HNO.out _ HB2.out
  ·go_wp2_with fail
   go_roundw
   case rel => exact ⟨k + 1, by omega, by go_num, HB2.out⟩
   case measure => simp [intOf]; omega
 have k1 : ¬ (k : Int) < (n.cals.length : Int) := by omega
 clear hnp
 go_wp2_with fail
 clear n0
 go_loopw [4] (fun i wr' => ∃ k : Nat, k <= n.offs.length /\ i = iV k /\ wr' = wr) (fun i _ => 60 - (intOf i).toNat)
 case atStart => exact ⟨0, by omega, rfl, rfl⟩
 case round =>
 obtain ⟨q, hq, rfl, rfl⟩ := hrel
 have q0 : (0 : Int) <= (q : Int) := by omega
 have hnp := (HNB.out _ HB.out).2
 have n3 : wr.cell? (aV X 3) = some (.slice n.offA n.offs.length n.offC) := hnp.box 3 _ rfl
 by_cases hqt : q < n.offs.length
 case pos =>
  have q1 : (q : Int) < (n.offs.length : Int) := by omega
  have hx : n.offs[q]? = some n.offs[q] := aD _
  generalize n.offs[q] = x at hx
  obtain ⟨-, b, off, hA, -, -, hc⟩ := ay cQ hnp.net.offs hx (by omega)
  have x6 := hc 6 _ rfl
  rw [hA] at n3
  clear hA hc hx hnp
  by_cases hcc : x.codes.length <= 30
  ·have g1 : ¬ (30 : Int) < (x.codes.length : Int) := by omega
   clear hcc
   go_wp2_with fail
   go_roundw
   case rel => exact ⟨q + 1, by omega, by go_num, by first | trivial | rfl⟩
   case measure => simp [intOf]; omega
  ·have g1 : (30 : Int) < (x.codes.length : Int) := by omega
   clear hcc
   go_wp2_with fail
   go_ret
   exact HNO.out _ HB.out
 have q1 : ¬ (q : Int) < (n.offs.length : Int) := by omega
 clear hnp
 go_wp2_with fail
 clear n3
 go_loopw [5] (fun kd wr => ∃ K : Nat, 1 <= K /\ K <= 6 /\ kd = iV K /\ Hid (Below (X + 1) W wr)) (fun kd _ => 7 - (intOf kd).toNat)
 case atStart => exact ⟨1, by omega, by omega, rfl, HB.out⟩
 case round =>
 clear HB k0 k1 hlt hk q0 q1 hqt hq
 obtain ⟨K, hK1, hK2, rfl, HB⟩ := hrel
 by_cases hK : K <= 5
 case neg =>
  have k1 : ¬ (K : Int) <= 5 := by omega
  go_wp2_with fail
  go_ret
  exact ⟨⟨true, rfl, fun _ => HF.out⟩, (HNB.out _ HB.out).1⟩
 have k1 : (K : Int) <= 5 := by omega
 obtain ⟨n0, n1, n2, n3, n4, n5⟩ := jA ((HNB.out _ HB.out).2)
 go_wp2_with fail
 refine (kR K hK1 hK n _ (HNB.out _ HB.out).2.net HF.out).mono ?_
 rintro e w2 ⟨A3, c3, rfl, hr, -, hb⟩
 have HRD := aB hr
 have HB2 : Hid (Below (X + 1) W w2) := HB.out.trans (hb.mono (aG HWL.out HB.out.size))
 have HSH := aB (kQ (HNB.out _ HB2.out).2.net hK1 hK)
 have hlen := oG HF.out hK1 hK
 clear hr hb n0 n1 n2 n3 n4 n5
 go_wp2_with fail
 go_loopw [7] (fun i wr' => ∃ k : Nat, k <= (aW n K).length /\ i = iV k /\ wr' = w2) (fun i _ => 60 - (intOf i).toNat)
 case atStart => exact ⟨0, by omega, rfl, rfl⟩
 case round =>
 obtain ⟨k, hk, rfl, rfl⟩ := hrel
 have m0 : (0 : Int) <= (k : Int) := by omega
 by_cases hkl : k < (aW n K).length
 case pos =>
  have m1 : (k : Int) < ((aW n K).length : Int) := by omega
  have hx : (aW n K)[k]? = some (aW n K)[k] := aD _
  have hxl := HSH.out _ (aF hx)
  obtain ⟨b, off, hA, -, hc⟩ := HRD.out.get (i := k) (by rw [List.length_map]; exact hkl)
  have x0 := hc k (sV (aW n K)[k]) (by rw [aS, hx]; rfl)
  generalize (aW n K)[k] = s at hx hxl x0
  unfold maxLen at hxl
  have HA := aB hA
  subst hA
  clear hc hx
  by_cases hcc : s.length <= 40
  ·have g1 : ¬ (40 : Int) < (s.length : Int) := by omega
   clear hcc
   go_wp2_with fail
   go_roundw
   case rel => exact ⟨k + 1, by omega, by go_num, by first | trivial | rfl⟩
   case measure => simp [intOf]; omega
  ·have g1 : (40 : Int) < (s.length : Int) := by omega
   clear hcc
   go_wp2_with fail
   go_ret
   exact HNO.out _ HB2.out
 have m1 : ¬ (k : Int) < ((aW n K).length : Int) := by omega
 go_wp2_with fail
 go_roundw
 case rel => exact ⟨K + 1, by omega, by omega, by go_num, HB2.out⟩
 case measure => simp [intOf]; omega
theorem s6 (n : Net) (A : Option Addr) (c : Nat) (nx : List NsC) (w : World) (hn : bj w n) (hT : Tab w A nx) (hx : nx.length <= maxLen) :
  Calls Tryz.prog 83 #[bB n, .slice A nx.length c] w fun e w' => ij (fun b => b = true -> gx n /\ n.offs.length <= 6) e /\ Below w.heap.size w w' := by
 have hb0 := ba w (ae n)
 have hx0 := aC w (ae n)
 have hl := hn.lens.2.2.2.1
 unfold maxLen at hl hx
 have HNP : Hid (br (w.alloc (ae n)) w.heap.size n) := ⟨fun i v hv => (aA _ hx0).trans hv, hn.below hb0⟩
 have HT := aB (hT.below hb0)
 have HB0 := aB hb0
 clear hn hT hb0 hx0
 go_enter Tryz.func83, Tryz.ntmps83
 go_upto_region 1 with fail
 change Code.wp _ _ _ _ (w.alloc (ae n))
 generalize (w.alloc (ae n)) = W at *
 generalize hX : w.heap.size = X at *
 have HX := aB hX; clear hX
 have HNB : Hid (∀ wr, Below W.heap.size W wr -> Below w.heap.size w wr) := fun wr hb => by have h := HB0.out; rw [<- HX.out] at h; exact bt h hb
 have HNO : Hid (∀ wr, Below W.heap.size W wr -> ij (fun b => b = true -> gx n /\ n.offs.length <= 6) (.returned (.bool false)) /\ Below w.heap.size w wr) := fun wr hb => ⟨⟨false, rfl, fun h => by cases h⟩, (HNB.out wr hb)⟩
 obtain ⟨n0, n1, n2, n3, n4, n5⟩ := jA HNP.out
 go_wp2_with fail
 refine (few_any n _ HNP.out.net).mono ?_
 rintro e w2 ⟨⟨bb, rfl, hf⟩, hb⟩
 have HB := aB hb
 have HF := aB hf
 have HT2 := aB (HT.out.below hb)
 have m3 : w2.cell? (aV X 3) = some (.slice n.offA n.offs.length n.offC) := (HNP.out.below hb).box 3 _ rfl
 clear hb hf n0 n1 n2 n3 n4 n5
 cases bb
 ·go_wp2_with fail
  go_ret
  exact HNO.out _ HB.out
 have HF1 : Hid (gx n) := HF.out rfl
 clear HF
 by_cases h6 : n.offs.length <= 6
 case neg =>
  have i6 : (6 : Int) < (n.offs.length : Int) := by omega
  clear h6
  go_wp2_with fail
  go_ret
  exact HNO.out _ HB.out
 have i6 : ¬ (6 : Int) < (n.offs.length : Int) := by omega
 have H6 := aB h6; clear h6
 by_cases h10 : nx.length <= 10
 case neg =>
  have i7 : (10 : Int) < (nx.length : Int) := by omega
  clear h10
  go_wp2_with fail
  go_ret
  exact HNO.out _ HB.out
 have i7 : ¬ (10 : Int) < (nx.length : Int) := by omega
 go_wp2_with fail
 clear m3 i6 i7
 go_loopw [5] (fun i wr => ∃ k : Nat, k <= nx.length /\ i = iV k /\ wr = w2) (fun i _ => 60 - (intOf i).toNat)
 case atStart => exact ⟨0, by omega, rfl, rfl⟩
 case round =>
 obtain ⟨k, hk, rfl, rfl⟩ := hrel
 have m0 : (0 : Int) <= (k : Int) := by omega
 by_cases hlt : k < nx.length
 case pos =>
  have m1 : (k : Int) < (nx.length : Int) := by omega
  have hr : nx[k]? = some nx[k] := aD _
  generalize nx[k] = r at hr
  obtain ⟨ns, rA, rc⟩ := r
  have hrl := (HT2.out.row _ (aF hr)).2.2
  obtain ⟨nb, no, hnA, -, hnc⟩ := HT2.out.rd.get (i := k) (by rw [List.length_map]; exact hlt)
  have x1 : wr.cell? (aV nb (no + k)) = some (.slice rA ns.length rc) := hnc k _ (by rw [aS, hr]; rfl)
  have HNA := aB hnA
  clear hr hnc
  subst hnA
  have hrl' : ns.length <= maxLen := hrl
  unfold maxLen at hrl'
  clear hrl
  by_cases hcc : ns.length <= 10
  ·have g1 : ¬ (10 : Int) < (ns.length : Int) := by omega
   clear hcc
   go_wp2_with fail
   go_roundw
   case rel => exact ⟨k + 1, by omega, by go_num, by first | trivial | rfl⟩
   case measure => simp [intOf]; omega
  ·have g1 : (10 : Int) < (ns.length : Int) := by omega
   clear hcc
   go_wp2_with fail
   go_ret
   exact HNO.out _ HB.out
 have m1 : ¬ (k : Int) < (nx.length : Int) := by omega
 go_wp2_with fail
 go_ret
 exact ⟨⟨true, rfl, fun _ => ⟨HF1.out, H6.out⟩⟩, HNB.out _ HB.out⟩
end Go.Proofs.YtpeaiphdkgifaaaGreatDoor
