/- The walk over survey.relaxed: the distances between the offices. The -/
import Derived.Test.YtpeaiphdkgifaaaGreatDoorVah
import Derived.Test.YtpeaiphdkgifaaaGreatDoorVad
import Derived.Laws.Rows
import Derived.Laws.Tables
import Derived.IntWalk
namespace Go.Proofs.YtpeaiphdkgifaaaGreatDoor
open Go.RowKit
set_option maxHeartbeats 20000000
set_option maxRecDepth 100000
def am (n : Net) : List (Nat × Nat × Int) := n.lins.map fun l => (l.frm.toNat, l.to.toNat, l.travel)
def rX (n : Net) : Prop := ∀ l ∈ n.lins, 0 <= l.frm /\ l.frm < 12 /\ 0 <= l.to /\ l.to < 12 /\ 0 <= l.travel /\ l.travel <= 5000
theorem kC {n : Net} (h : rX n) : fA (am n) 5000 := by
 intro e he
 obtain ⟨l, hl, rfl⟩ := List.mem_map.1 he
 have := h l hl
 dsimp only
 omega
theorem rK (es : List (Nat × Nat × Int)) (k : Nat) (e : Nat × Nat × Int) (h : es[k]? = some e) : bL (es.take (k + 1)) = cy (bL (es.take k)) e.1 e.2.1 e.2.2 := by
 unfold bL
 rw [List.take_add_one, h, List.foldl_append]
 rfl
theorem sF {es : List (Nat × Nat × Int)} (he : fA es 5000) {k m j : Nat} (hk : k < 12) (a b : Nat) : iM k m j (cR k m (fF k (bL es))) a b = -1 ∨ 0 <= iM k m j (cR k m (fF k (bL es))) a b /\ iM k m j (cR k m (fF k (bL es))) a b <= 41000000 := by
 have h1 := (mT (by omega) he k (by omega)).1
 have hp : (5000 : Int) * 2 ^ k <= 20480000 := by
  rcases (by omega : k = 0 ∨ k = 1 ∨ k = 2 ∨ k = 3 ∨ k = 4 ∨ k = 5 ∨ k = 6 ∨ k = 7 ∨ k = 8 ∨ k = 9 ∨ k = 10 ∨ k = 11) with rfl | rfl | rfl | rfl | rfl | rfl | rfl | rfl | rfl | rfl | rfl | rfl <;> decide
 have hp0 : 0 <= (5000 : Int) * 2 ^ k := Int.mul_nonneg (by omega) (Int.pow_nonneg (by omega))
 have h2 := ((ic.stage hp0 h1 k m).rows h1 m j).ok.rng a b
 rcases h2 with h2 | h2
 ·exact .inl h2
 ·exact .inr ⟨h2.1, by omega⟩
theorem vJ {es : List (Nat × Nat × Int)} (he : fA es 5000) {k m j : Nat} (hk : k < 12) : iM k m (j + 1) (cR k m (fF k (bL es))) m k = iM k m j (cR k m (fF k (bL es))) m k /\ iM k m (j + 1) (cR k m (fF k (bL es))) k j = iM k m j (cR k m (fF k (bL es))) k j := by
 have h1 := (mT (by omega) he k (by omega)).1
 have hp0 : 0 <= (5000 : Int) * 2 ^ k := Int.mul_nonneg (by omega) (Int.pow_nonneg (by omega))
 have h2 := (ic.stage hp0 h1 k m).rows h1 m j
 have h3 := (ic.stage hp0 h1 k m).rows h1 m (j + 1)
 exact ⟨(h3.col m).trans (h2.col m).symm, (h3.row j).trans (h2.row j).symm⟩
def wZ (w : World) (n : Net) (e : Ending) (w' : World) : Prop :=
 ∃ cs : Array Value, e = .returned (.agg cs) /\ cs.size = 144 /\ (∀ a b, a < 12 -> b < 12 -> cs[a * 12 + b]? = some (iV (de (am n) a b))) /\ Below w.heap.size w w'
theorem pY : (Tryz.prog.info? 117).map (·.size) = some 144 := by kernel_rfl
def eD (i j : Nat) : Mat := fun a b => if a = b then 0 else if a < i ∨ a = i /\ b < j then -1 else 0
theorem rF (a b : Nat) : eD 0 0 a b = 0 := by simp [eD]
theorem rH (i j : Nat) (h : i ≠ j) : mX (eD i j) i j (-1) = eD i (j + 1) := by
 funext a b
 unfold mX eD
 by_cases h1 : a = i /\ b = j
 ·obtain ⟨rfl, rfl⟩ := h1
  simp [h]
 ·rw [if_neg h1]
  by_cases hab : a = b
  ·simp [hab]
  ·rw [if_neg hab, if_neg hab]
   have : (a < i ∨ a = i /\ b < j) ↔ (a < i ∨ a = i /\ b < j + 1) := by omega
   simp only [this]
theorem rG (i : Nat) : eD i i = eD i (i + 1) := by
 funext a b
 unfold eD
 by_cases hab : a = b
 ·simp [hab]
 ·rw [if_neg hab, if_neg hab]
  have : (a < i ∨ a = i /\ b < i) ↔ (a < i ∨ a = i /\ b < i + 1) := by omega
  simp only [this]
theorem Blk.congr {w : World} {R : Nat} {M N : Mat} (h : Blk w R M) (he : ∀ a b, a < 12 -> b < 12 -> M a b = N a b) : Blk w R N := by
 obtain ⟨cs, h1, h2, h3⟩ := h
 exact ⟨cs, h1, h2, fun a b ha hb => by rw [h3 a b ha hb, he a b ha hb]⟩
theorem sf : Tryz.zeroCells117 = Array.replicate 144 (iV 0) := by kernel_rfl
theorem Blk.zero {w : World} {R : Nat} (h : w.heap[R]? = some (.cells Tryz.zeroCells117 117 (0, 0))) : Blk w R (eD 0 0) :=
 ⟨_, h, by rw [sf]; simp, fun a b ha hb => by rw [rF, sf, Array.getElem?_replicate, if_pos (by omega)]⟩
theorem Blk.one {w : World} {R : Nat} {M : Mat} (h : Blk w R M) : ∃ cs : Array Value, w.heap[R]? = some (.cells cs 117 (0, 0)) /\ cs.size = 144 /\ (∀ a b, a < 12 -> b < 12 -> cs[a * 12 + b]? = some (iV (M a b))) /\ cs.all (·.oneCell') = true := by
 obtain ⟨cs, h1, h2, h3⟩ := h
 refine ⟨cs, h1, h2, h3, ?_⟩
 rw [Array.all_eq_true]
 intro i hi
 have hq := Nat.div_add_mod i 12
 have hm := Nat.mod_lt i (show 12 > 0 by omega)
 have := h3 (i / 12) (i % 12) (by omega) hm
 rw [show i / 12 * 12 + i % 12 = i by omega, Array.getElem?_eq_getElem hi] at this
 rw [Option.some.inj this]
 rfl
theorem ul (k a b : Nat) (hb : b < 12) : eD k 12 a b = eD (k + 1) 0 a b := by
 unfold eD
 by_cases hab : a = b
 ·simp [hab]
 ·rw [if_neg hab, if_neg hab]
  have : (a < k ∨ a = k /\ b < 12) ↔ (a < k + 1 ∨ a = k + 1 /\ b < 0) := by omega
  simp only [this]
theorem um (a b : Nat) (ha : a < 12) : eD 12 0 a b = bL [] a b := by
 unfold eD bL jC
 by_cases hab : a = b
 ·simp [hab]
 ·simp [hab, ha]
theorem gD {B R : Nat} {a b c : World} (h : Below B a b) (hg : b.grownBy c (some R)) (hR : B <= R) (hB : B <= b.heap.size) : Below B a c :=
 ⟨hg.os.trans h.os, hg.tape.trans h.tape, hg.output.trans h.output, aG h.size hg.size, fun i hi => (hg.block i (Nat.lt_of_lt_of_le hi hB) (by simp; omega)).trans (h.block i hi)⟩
theorem pJ (n : Net) (w : World) (hn : bj w n) (hL : rX n) :
  Calls Tryz.prog 51 #[bB n] w (wZ w n) := by
 have HL := aB hL; clear hL
 have HE := aB (kC HL.out)
 have hll := hn.lens.2.2.2.2.1
 unfold maxLen at hll
 have HB0 : Hid (Below w.heap.size w (((w.alloc (ae n)).alloc (.cells Tryz.zeroCells117 117)).alloc (.cells Tryz.zeroCells117 117))) := (((aJ _ w).alloc (aH _) _).alloc (by simp) _).alloc (by simp; omega) _
 have HX : Hid ((((w.alloc (ae n)).alloc (.cells Tryz.zeroCells117 117)).alloc (.cells Tryz.zeroCells117 117)).heap[w.heap.size]? = some (ae n)) := (aK _ _ _ (by simp; omega)).trans ((aK _ _ _ (by simp)).trans (aC _ _))
 have HQ0 : Hid ((((w.alloc (ae n)).alloc (.cells Tryz.zeroCells117 117)).alloc (.cells Tryz.zeroCells117 117)).heap[w.heap.size + 1]? = some (.cells Tryz.zeroCells117 117 (0, 0))) := by
  refine (aK _ _ _ (by simp)).trans ?_
  have := aC (w.alloc (ae n)) (.cells Tryz.zeroCells117 117)
  rwa [aT] at this
 have HR0 : Hid ((((w.alloc (ae n)).alloc (.cells Tryz.zeroCells117 117)).alloc (.cells Tryz.zeroCells117 117)).heap[w.heap.size + 1 + 1]? = some (.cells Tryz.zeroCells117 117 (0, 0))) := by
  have := aC ((w.alloc (ae n)).alloc (.cells Tryz.zeroCells117 117)) (.cells Tryz.zeroCells117 117)
  rwa [aT, aT] at this
 have HN := aB hn; clear hn
 go_enter Tryz.func51, Tryz.ntmps51
 go_upto_region 3 with fail
 change Code.wp _ _ _ _ (((w.alloc (ae n)).alloc (.cells Tryz.zeroCells117 117)).alloc (.cells Tryz.zeroCells117 117))
 generalize (((w.alloc (ae n)).alloc (.cells Tryz.zeroCells117 117)).alloc (.cells Tryz.zeroCells117 117)) = W0 at *
 generalize hX : w.heap.size = X at *
 generalize hQ : X + 1 = Q at *
 generalize hR : Q + 1 = R at *
 have HXE := aB hX; clear hX
 have HQE := aB hQ; clear hQ
 have HRE := aB hR; clear hR
 have HNB : Hid (∀ wr, Below R W0 wr -> bj wr n) := fun wr h => HN.out.below (by rw [HXE.out]; exact HB0.out.trans (h.mono (by have := HQE.out; have := HRE.out; omega)))
 have HRW : Hid (R < W0.heap.size) := aa HR0.out
 go_loopw [12] (fun i wr => ∃ k : Nat, k <= 12 /\ i = iV k /\ Hid (Below R W0 wr) /\ Hid (Blk wr R (eD k 0))) (fun i _ => 13 - (intOf i).toNat)
 case atStart => exact ⟨0, by omega, rfl, aJ _ _, Blk.zero HR0.out⟩
 case round =>
  obtain ⟨k, hk, rfl, HB, HM⟩ := hrel
  have k0 : (0 : Int) <= (k : Int) := by omega
  by_cases hlt : k < 12
  ·have k1 : (k : Int) < 12 := by omega
   go_wp2
   go_loopw [15] (fun i wr => ∃ m : Nat, m <= 12 /\ i = iV m /\ Hid (Below R W0 wr) /\ Hid (Blk wr R (eD k m))) (fun i _ => 13 - (intOf i).toNat)
   case atStart => exact ⟨0, by omega, rfl, HB.out, HM.out⟩
   case round =>
    clear HB HM
    obtain ⟨m, hm, rfl, HB, HM⟩ := hrel
    have m0 : (0 : Int) <= (m : Int) := by omega
    by_cases hmt : m < 12
    ·have m1 : (m : Int) < 12 := by omega
     by_cases hkm : k = m
     ·subst hkm
      have e1 : ((k : Int) != (k : Int)) = false := by simp
      have HM2 : Hid (eD k k = eD k (k + 1)) := rG k
      go_wp2
      go_roundw
      case rel => exact ⟨k + 1, by omega, by go_num, HB.out, by rw [<- HM2.out]; exact HM.out⟩
      case measure => simp [intOf]; omega
     ·have e1 : ((k : Int) != (m : Int)) = true := by simp; omega
      have e2 : ((k : Int) == (m : Int)) = false := by simp; omega
      obtain ⟨hc, hf⟩ := HM.out.cell hlt hmt
      have HM2 : Hid (Blk (wr.setCell (aV R (k * 12 + m)) (iV (-1))) R (eD k (m + 1))) := by
       have := HM.out.set hlt hmt (-1)
       rwa [rH k m hkm] at this
      have HB2 : Hid (Below R W0 (wr.setCell (aV R (k * 12 + m)) (iV (-1)))) := HB.out.setCell (aH _) _
      clear hkm
      go_wp2
      go_roundw
      case rel => exact ⟨m + 1, by omega, by go_num, HB2.out, HM2.out⟩
      case measure => simp [intOf]; omega
    ·have m1 : ¬ (m : Int) < 12 := by omega
     have hm12 : m = 12 := by omega
     have HM2 : Hid (Blk wr R (eD (k + 1) 0)) := by
      rw [hm12] at HM
      exact HM.out.congr fun a b _ hb => ul k a b hb
     clear hm12
     go_wp2
     go_roundw
     case rel => exact ⟨k + 1, by omega, by go_num, HB.out, HM2.out⟩
     case measure => simp [intOf]; omega
  ·have k1 : ¬ (k : Int) < 12 := by omega
   have hk12 : k = 12 := by omega
   have HM2 : Hid (Blk wr R (bL ((am n).take 0))) := by
    rw [hk12] at HM
    exact HM.out.congr fun a b ha _ => um a b ha
   have HXb := aB ((HB.out.block X (by have := HQE.out; have := HRE.out; omega)).trans HX.out)
   have n4 : wr.cell? (aV X 4) = some (.slice n.linA n.lins.length n.linC) := aA 4 HXb.out
   have HBS := aB HB.out
   clear hk12 HM
   go_wp2
   clear HB n4 HXb
   go_loopw [31] (fun i wr => ∃ m : Nat, m <= n.lins.length /\ i = iV m /\ Hid (Below R W0 wr) /\ Hid (Blk wr R (bL ((am n).take m)))) (fun i _ => n.lins.length + 1 - (intOf i).toNat)
   case atStart => exact ⟨0, by omega, rfl, HBS.out, HM2.out⟩
   case round =>
    clear HM2 HBS
    obtain ⟨m, hm, rfl, HB, HM⟩ := hrel
    have m0 : (0 : Int) <= (m : Int) := by omega
    by_cases hmt : m < n.lins.length
    ·have m1 : (m : Int) < (n.lins.length : Int) := by omega
     have hlm := aF (bC hmt)
     have HLN : Hid ((am n)[m]? = some ((af n m).frm.toNat, (af n m).to.toNat, (af n m).travel)) := by
      show _ = _
      unfold am
      rw [aS, bC hmt]
      rfl
     obtain ⟨r1, r2, r3, r4, r5, r6⟩ := HL.out _ hlm
     obtain ⟨fa, hfa⟩ : ∃ a : Nat, (af n m).frm = (a : Int) := ⟨(af n m).frm.toNat, by omega⟩
     obtain ⟨fb, hfb⟩ : ∃ a : Nat, (af n m).to = (a : Int) := ⟨(af n m).to.toNat, by omega⟩
     have ha12 : fa < 12 := by omega
     have hb12 : fb < 12 := by omega
     have hea : (af n m).frm.toNat = fa := by omega
     have heb : (af n m).to.toNat = fb := by omega
     rw [hea, heb] at HLN
     have HST : Hid (bL ((am n).take (m + 1)) = cy (bL ((am n).take m)) fa fb (af n m).travel) := rK _ _ _ HLN.out
     obtain ⟨-, lb, lo, hlA, -, hl0, hlc⟩ := ay bT (HNB.out _ HB.out).lins (bC hmt) (by omega)
     have c0 : wr.cell? (aV lb (lo + m * 6)) = some (sV (af n m).name) := hl0 _ rfl
     have c1 : wr.cell? (aV lb (lo + m * 6 + 1)) = some (iV (af n m).frm) := hlc 1 _ rfl
     have c2 : wr.cell? (aV lb (lo + m * 6 + 2)) = some (iV (af n m).to) := hlc 2 _ rfl
     have c3 : wr.cell? (aV lb (lo + m * 6 + 3)) = some (iV (af n m).at_) := hlc 3 _ rfl
     have c4 : wr.cell? (aV lb (lo + m * 6 + 4)) = some (iV (af n m).travel) := hlc 4 _ rfl
     have c5 : wr.cell? (aV lb (lo + m * 6 + 5)) = some (iV (af n m).load) := hlc 5 _ rfl
     rw [hfa] at c1
     rw [hfb] at c2
     have HLA := aB hlA
     generalize (af n m).travel = tv at *
     clear hl0 hlc hea heb hfa hfb hlm r1 r2 r3 r4 HLN
     rw [hlA]
     clear hlA
     have HRl : Hid (R < wr.heap.size) := HM.out.lt
     have HB2 : Hid (Below R W0 (wr.alloc (.cells #[sV (af n m).name, iV fa, iV fb, iV (af n m).at_, iV tv, iV (af n m).load] 52))) := HB.out.alloc (aI HRl.out) _
     have HM2 : Hid (Blk (wr.alloc (.cells #[sV (af n m).name, iV fa, iV fb, iV (af n m).at_, iV tv, iV (af n m).load] 52)) R (bL ((am n).take m))) := HM.out.below (ba _ _)
     have hLN : (wr.alloc (.cells #[sV (af n m).name, iV fa, iV fb, iV (af n m).at_, iV tv, iV (af n m).load] 52)).heap[wr.heap.size]? = some (.cells #[sV (af n m).name, iV fa, iV fb, iV (af n m).at_, iV tv, iV (af n m).load] 52) := aC _ _
     have b1 : (wr.alloc (.cells #[sV (af n m).name, iV fa, iV fb, iV (af n m).at_, iV tv, iV (af n m).load] 52)).cell? (aV wr.heap.size 1) = some (iV fa) := aA 1 hLN
     have b2 : (wr.alloc (.cells #[sV (af n m).name, iV fa, iV fb, iV (af n m).at_, iV tv, iV (af n m).load] 52)).cell? (aV wr.heap.size 2) = some (iV fb) := aA 2 hLN
     have b4 : (wr.alloc (.cells #[sV (af n m).name, iV fa, iV fb, iV (af n m).at_, iV tv, iV (af n m).load] 52)).cell? (aV wr.heap.size 4) = some (iV tv) := aA 4 hLN
     clear hLN HM HB
     go_upto_region 16 with fail
     change Code.wp _ _ _ _ (wr.alloc (.cells #[sV (af n m).name, iV fa, iV fb, iV (af n m).at_, iV tv, iV (af n m).load] 52))
     generalize (wr.alloc (.cells #[sV (af n m).name, iV fa, iV fb, iV (af n m).at_, iV tv, iV (af n m).load] 52)) = W1 at *
     go_wp2_with fail
     refine (nu R _ fa fb tv _ HM2.out ha12 hb12).mono ?_
     rintro e w2 ⟨rfl, hM3, hg3⟩
     rw [<- HST.out] at hM3
     have HM3 := aB hM3; clear hM3
     have HB3 : Hid (Below R W0 w2) := gD HB2.out hg3 (aH _) (aI HM2.out.lt)
     clear hg3 b1 b2 b4 c0 c1 c2 c3 c4 c5
     go_wp2_with fail
     go_roundw
     case rel => exact ⟨m + 1, by omega, by go_num, HB3.out, HM3.out⟩
     case measure => simp [intOf]; omega
    ·have m1 : ¬ (m : Int) < (n.lins.length : Int) := by omega
     have HM4 : Hid (Blk wr R (fF 0 (bL (am n)))) := by
      have h1 : m = (am n).length := by simp [am]; omega
      have := HM.out
      rw [h1, List.take_length] at this
      exact this
     have HB4 := aB HB.out
     clear HM HB
     go_wp2
     go_loopw [44] (fun i wr => ∃ k : Nat, k <= 12 /\ i = iV k /\ Hid (Below R W0 wr) /\ Hid (Blk wr R (fF k (bL (am n))))) (fun i _ => 13 - (intOf i).toNat)
     case atStart => exact ⟨0, by omega, rfl, HB4.out, HM4.out⟩
     case round =>
      clear HM4 HB4
      obtain ⟨q, hq, rfl, HB, HM⟩ := hrel
      have q0 : (0 : Int) <= (q : Int) := by omega
      by_cases hqt : q < 12
      ·have q1 : (q : Int) < 12 := by omega
       go_wp2
       go_loopw [47] (fun i wr => ∃ s : Nat, s <= 12 /\ i = iV s /\ Hid (Below R W0 wr) /\ Hid (Blk wr R (cR q s (fF q (bL (am n)))))) (fun i _ => 13 - (intOf i).toNat)
       case atStart => exact ⟨0, by omega, rfl, HB.out, HM.out⟩
       case round =>
        clear HM HB
        obtain ⟨s, hs, rfl, HB, HM⟩ := hrel
        have s0 : (0 : Int) <= (s : Int) := by omega
        by_cases hst : s < 12
        ·have s1 : (s : Int) < 12 := by omega
         go_wp2
         go_loopw [50] (fun i wr => ∃ u : Nat, u <= 12 /\ i = iV u /\ Hid (Below R W0 wr) /\ Hid (Blk wr R (iM q s u (cR q s (fF q (bL (am n))))))) (fun i _ => 13 - (intOf i).toNat)
         case atStart => exact ⟨0, by omega, rfl, HB.out, HM.out⟩
         case round =>
          clear HM HB
          obtain ⟨u, hu, rfl, HB, HM⟩ := hrel
          have u0 : (0 : Int) <= (u : Int) := by omega
          by_cases hut : u < 12
          ·have u1 : (u : Int) < 12 := by omega
           have hr1 := sF HE.out (m := s) (j := u) hqt s q
           have hr2 := sF HE.out (m := s) (j := u) hqt q u
           have HST : Hid (iM q s (u + 1) (cR q s (fF q (bL (am n)))) = lj q s (iM q s u (cR q s (fF q (bL (am n))))) u) := nt _ _ _ _
           obtain ⟨hcol, hrow⟩ := vJ HE.out (k := q) (m := s) (j := u) hqt
           have HCOL := aB hcol; clear hcol
           have HROW := aB hrow; clear hrow
           generalize iM q s u (cR q s (fF q (bL (am n)))) = M at *
           obtain ⟨d1, -⟩ := HM.out.cell hst hqt
           obtain ⟨d2, -⟩ := HM.out.cell hqt hut
           by_cases g1 : M s q = -1
           ·have g1' : (M s q != -1) = false := by simpa using g1
            have HR1 : Hid (lj q s M u = M) := if_neg (fun h => h.1 g1)
            clear g1
            go_wp2_with fail
            go_roundw
            case rel => exact ⟨u + 1, by omega, by go_num, HB.out, by rw [HST.out, HR1.out]; exact HM.out⟩
            case measure => simp [intOf]; omega
           ·have g1' : (M s q != -1) = true := by simpa using g1
            by_cases g2 : M q u = -1
            ·have g2' : (M q u != -1) = false := by simpa using g2
             have HR1 : Hid (lj q s M u = M) := if_neg (fun h => h.2 g2)
             clear g1 g2
             go_wp2_with fail
             go_roundw
             case rel => exact ⟨u + 1, by omega, by go_num, HB.out, by rw [HST.out, HR1.out]; exact HM.out⟩
             case measure => simp [intOf]; omega
            ·have g2' : (M q u != -1) = true := by simpa using g2
             have HR1 : Hid (lj q s M u = cy M s u (M s q + M q u)) := if_pos ⟨g1, g2⟩
             have b1 := (hr1.resolve_left g1).1
             have b2 := (hr1.resolve_left g1).2
             have b3 := (hr2.resolve_left g2).1
             have b4 := (hr2.resolve_left g2).2
             have hsum : IntKind.i64.wrap (M s q + M q u) = M s q + M q u := aO _ (by omega)
             have hRl := HM.out.lt
             have HKA : Hid (∀ w', Below wr.heap.size wr w' -> w'.cell? (aV R (s * 12 + q)) = some (iV (M s q)) /\ w'.cell? (aV R (q * 12 + u)) = some (iV (M q u))) := fun w' hb => ⟨(hb.cell (p := (aV R _)) hRl).trans d1, (hb.cell (p := (aV R _)) hRl).trans d2⟩
             have HKB : Hid (∀ w', Blk w' R (iM q s (u + 1) (cR q s (fF q (bL (am n))))) -> w'.cell? (aV R (s * 12 + q)) = some (iV (M s q)) /\ w'.cell? (aV R (q * 12 + u)) = some (iV (M q u))) := fun w' hb => ⟨by have := (hb.cell hst hqt).1; rwa [HCOL.out] at this, by have := (hb.cell hqt hut).1; rwa [HROW.out] at this⟩
             clear g1 g2 hr1 hr2 b1 b2 b3 b4
             go_upto_region 28 with fail
             go_region_held3 (fun w' => w'.cell? (aV R (s * 12 + q)) = some (iV (M s q)) /\ w'.cell? (aV R (q * 12 + u)) = some (iV (M q u))) (first | (with_reducible exact HKA.out _ (al (aJ _ _))) | (with_reducible exact HKB.out _ HM3.out)) ((go_at_call 127; refine (nu R M s u (M s q + M q u) _ (HM.out.below (al (aJ _ _))) hst hut).mono ?_; rintro e w2 ⟨rfl, hM3, hg3⟩; rw [<- HR1.out, <- HST.out] at hM3; have HM3 := aB hM3; clear hM3; have HB3 : Hid (Below R W0 w2) := gD (HB.out.drew) hg3 (aH _) (aI HM.out.lt); clear hg3))
             clear d1 d2 hsum
             go_wp2_with fail
             go_roundw
             case rel => exact ⟨u + 1, by omega, by go_num, HB3.out, HM3.out⟩
             case measure => simp [intOf]; omega
          ·have u1 : ¬ (u : Int) < 12 := by omega
           have HM5 : Hid (Blk wr R (cR q (s + 1) (fF q (bL (am n))))) := by
            have h1 : u = 12 := by omega
            have := HM.out
            rw [h1] at this
            rw [lk]
            exact this
           clear HM
           go_wp2
           go_roundw
           case rel => exact ⟨s + 1, by omega, by go_num, HB.out, HM5.out⟩
           case measure => simp [intOf]; omega
        ·have s1 : ¬ (s : Int) < 12 := by omega
         have HM5 : Hid (Blk wr R (fF (q + 1) (bL (am n)))) := by
          have h1 : s = 12 := by omega
          have := HM.out
          rw [h1] at this
          rw [oh]
          exact this
         clear HM
         go_wp2
         go_roundw
         case rel => exact ⟨q + 1, by omega, by go_num, HB.out, HM5.out⟩
         case measure => simp [intOf]; omega
      ·have q1 : ¬ (q : Int) < 12 := by omega
       have HM6 : Hid (Blk wr R (de (am n))) := by
        have h1 : q = 12 := by omega
        have := HM.out
        rw [h1] at this
        exact this
       obtain ⟨cs, h1, h2, h3, h4⟩ := HM6.out.one
       have H1 := aB h1; clear h1
       have H2 := aB h2; clear h2
       have H3 := aB h3; clear h3
       have H4 := aB h4; clear h4
       have HQb := aB ((HB.out.block Q (by have := HRE.out; omega)).trans HQ0.out)
       have HSZ : Hid ((Tryz.zeroCells117).size = cs.size) := by show _ = _; rw [sf, H2.out]; simp
       have HSI : Hid ((Tryz.prog.info? 117).map (·.size) = some cs.size) := by show _ = _; rw [H2.out]; exact pY
       clear HM HM6
       go_wp2_with (first | (refine wpList_load_row (by rfl) 117 (.tmp 3) (by rfl) R (by rfl) 117 cs (0, 0) _ H1.out Tryz.underlying117 (by rfl) HSI.out ?_) | (refine wpList_store_row (by rfl) 117 (.tmp 2) (.tmp 85) (by rfl) Q cs (by rfl) (by rfl) 117 _ HQb.out HSI.out HSZ.out H4.out ?_))
       have hQ := setRow_heap wr Q _ cs _ (0, 0) HQb.out
       refine bodyPost_ret (v := .agg cs) (results_cell_row rfl _ _ Q 117 cs (0, 0) _ (by rfl) hQ Tryz.underlying117 (by rfl) HSI.out) rfl ⟨cs, rfl, H2.out, H3.out, ?_⟩
       have h5 : Below X w wr := HB0.out.trans (HB.out.mono (by have := HQE.out; have := HRE.out; omega))
       rw [HXE.out]
       exact ⟨h5.os, h5.tape, h5.output, by simp; exact h5.size, fun i hi => (setRow_other _ _ _ _ (by have := HQE.out; omega)).trans (h5.block i hi)⟩
def bM (n : Net) : Prop := jB n /\ ∀ b < n.offs.length, ∀ a < n.offs.length, de (am n) a b ≠ -1
theorem fV {v a b : Int} : bW v a b = true ↔ a <= v /\ v <= b := by unfold bW; simp
theorem dN {i : Int} {k : Nat} : bx i k = true ↔ 0 <= i /\ i < (k : Int) := by unfold bx; simp
theorem iX {v : Int} : eO v = true ↔ 0 <= v /\ v <= 1439 := by unfold eO; exact fV
theorem uc {n : Net} {l : Lin} : eY n l = true ↔ (0 <= l.frm /\ l.frm < (n.offs.length : Int)) /\ (0 <= l.to /\ l.to < (n.offs.length : Int)) /\ l.frm ≠ l.to /\ (0 <= l.at_ /\ l.at_ <= 1439) /\ (1 <= l.travel /\ l.travel <= 5000) /\ (1 <= l.load /\ l.load <= 40) := by
 unfold eY
 by_cases h : bx l.frm n.offs.length = true /\ bx l.to n.offs.length = true /\ l.frm ≠ l.to
 ·rw [if_pos h, Bool.and_eq_true, Bool.and_eq_true, iX, fV, fV]
  exact ⟨fun h2 => ⟨dN.1 h.1, dN.1 h.2.1, h.2.2, h2.1.1, h2.1.2, h2.2⟩, fun h2 => ⟨⟨h2.2.2.2.1, h2.2.2.2.2.1⟩, h2.2.2.2.2.2⟩⟩
 ·rw [if_neg h]
  exact ⟨(fun h2 => by cases h2), fun h2 => absurd ⟨dN.2 h2.1, dN.2 h2.2.1, h2.2.2.1⟩ h⟩
theorem pO {n : Net} {o : Off} : ct n o = true ↔ ((0 <= o.op /\ o.op < (n.ops.length : Int)) /\ (0 <= o.cal /\ o.cal < (n.cals.length : Int)) /\ o.codes.length <= 20 /\ o.codes.all cC = true) /\ (2 <= o.pockets /\ o.pockets <= 64) /\ (1 <= o.passes /\ o.passes <= 4) /\ (1 <= o.minutes /\ o.minutes <= 240) := by
 unfold ct
 by_cases h : bx o.op n.ops.length = true /\ bx o.cal n.cals.length = true /\ o.codes.length <= 20 /\ o.codes.all cC = true
 ·rw [if_pos h, Bool.and_eq_true, Bool.and_eq_true, fV, fV, fV]
  exact ⟨fun h2 => ⟨⟨dN.1 h.1, dN.1 h.2.1, h.2.2⟩, h2.1.1, h2.1.2, h2.2⟩, fun h2 => ⟨⟨h2.2.1, h2.2.2.1⟩, h2.2.2.2⟩⟩
 ·rw [if_neg h]
  exact ⟨(fun h2 => by cases h2), fun h2 => absurd ⟨dN.2 h2.1.1, dN.2 h2.1.2.1, h2.1.2.2⟩ h⟩
theorem wN {k : Cls} : kG k = true ↔ (0 <= k.cut /\ k.cut <= 1439) /\ 0 <= k.deliver /\ k.deliver <= 1439 := by
 unfold kG
 rw [Bool.and_eq_true, iX, iX]
theorem oE {α : Type} {nm : Nat -> List UInt8} {gd : α -> Bool} {L : List α} (h : ∀ i < L.length, cB nm gd L i) : ∀ x ∈ L, gd x = true := fun x hx => by
 obtain ⟨i, hi, rfl⟩ := List.mem_iff_getElem.1 hx
 exact (h i hi).2.2 _ (aD hi)
theorem jB.good {n : Net} (h : jB n) : cY n := by
 refine ⟨oE h.cal.2, fun o ho => ?_, fun l hl => ?_, fun k hk => ?_, ⟨h.cal.1, h.off.1, h.lin.1, h.cls.1⟩⟩
 ·have := pO.1 (oE h.off.2 o ho)
  exact ⟨this.1.2.1, this.2.2.1.1, this.2.2.1.2, this.2.2.2.1, this.2.2.2.2⟩
 ·have := uc.1 (oE h.lin.2 l hl)
  exact ⟨this.1, this.2.1, this.2.2.2.1.1, by have := this.2.2.2.1.2; omega, this.2.2.2.2.1.1, this.2.2.2.2.1.2⟩
 ·have := wN.1 (oE h.cls.2 k hk)
  exact ⟨this.1.1, by have := this.1.2; omega, this.2.1, by have := this.2.2; omega⟩
theorem jB.lins {n : Net} (h : jB n) : rX n := fun l hl => by
 have h1 := h.good.lin l hl
 have h2 := h.off.1
 omega
theorem mat_one {cs : Array Value} {M : Mat} (h2 : cs.size = 144) (h3 : ∀ a b, a < 12 -> b < 12 -> cs[a * 12 + b]? = some (iV (M a b))) : cs.all (·.oneCell') = true := by
 rw [Array.all_eq_true]
 intro i hi
 have hq := Nat.div_add_mod i 12
 have hm := Nat.mod_lt i (show 12 > 0 by omega)
 have := h3 (i / 12) (i % 12) (by omega) hm
 rw [show i / 12 * 12 + i % 12 = i by omega, Array.getElem?_eq_getElem hi] at this
 rw [Option.some.inj this]
 rfl
theorem ru {v v' : Value} {X Y : Nat} (h : v'.ownBlock = v.ownBlock ∨ v'.ownBlock = some X) (hv : v.ownBlock ≠ some Y) (hX : Y ≠ X) : v'.ownBlock ≠ some Y := fun e => by
 rcases h with h | h
 ·exact hv (h.symm.trans e)
 ·rw [h] at e
  exact hX (Option.some.inj e).symm
theorem nI (w : World) (g : Nat) (cs : Array Value) : w.grownBy (w.setRow g cs) (some g) := ⟨rfl, rfl, rfl, by simp, fun k _ hk => setRow_other w g k _ (fun e => hk (by rw [e]))⟩
theorem gg (n : Net) (w : World) (hn : bj w n) (hk : KW w) :
  Calls Tryz.prog 34 #[bB n] w (rY w (bM n)) := by
 obtain ⟨i0, hi0, hz0, hz1, hz2⟩ := info_parts mK
 have hb0 := ba w (ae n)
 have hl := hn.lens.2.2.2.1
 unfold maxLen at hl
 have hx0 := aC w (ae n)
 have HNP : Hid (br (w.alloc (ae n)) w.heap.size n) := ⟨fun i v hv => (aA _ hx0).trans hv, hn.below hb0⟩
 have HK := aB hk
 have HNW := aB hn
 have HB0 := aB hb0
 have HWL : Hid (w.heap.size + 1 <= (w.alloc (ae n)).heap.size) := aa hx0
 clear hn hk hb0 hx0
 go_enter Tryz.func34, Tryz.ntmps34
 go_upto_region 1 with fail
 change Code.wp _ _ _ _ (w.alloc (ae n))
 generalize (w.alloc (ae n)) = W at *
 generalize hX : w.heap.size = X at *
 have HX := aB hX; clear hX
 have HNB : Hid (∀ wr, Below (X + 1) W wr -> Below w.heap.size w wr /\ br wr X n) := fun wr hb => cW HNW.out HX.out HB0.out HNP.out.box hb
 obtain ⟨n0, n1, n2, n3, n4, n5⟩ := jA HNP.out
 go_wp2_with fail
 refine (uo n _ HNP.out.net (HK.out.below (HNB.out _ (aJ _ _)).1)).mono ?_
 rintro e w1 ⟨A, m, c, xs, rfl, ho, h1, hm, hmb, hb⟩
 have HO := aB (cn ho HWL.out)
 have H1 := aB h1
 have HM := aB hm
 have HB1 := aB (hb.mono HWL.out)
 clear ho h1 hm hb n0 n1 n2 n3 n4 n5
 by_cases hc : jB n
 case neg =>
  have hm0 : 0 < m := by
   rcases Nat.eq_zero_or_pos m with h | h
   ·exact absurd (HM.out.1 h) hc
   ·exact h
  have hm1 : (0 : Int) < (m : Int) := by omega
  have HC := aB hc; clear hc
  go_wp2
  go_ret
  exact ⟨A, m, c, xs, rfl, cn HO.out (by have := HX.out; omega), H1.out, ⟨fun h => by omega, fun h => absurd h.1 HC.out⟩, by omega, (HNB.out _ HB1.out).1⟩
 case pos =>
  obtain rfl : m = 0 := HM.out.2 hc
  obtain rfl : xs = [] := List.eq_nil_of_length_eq_zero (by simpa using HO.out.1)
  have h12 := hc.off.1
  have HC := aB hc; clear hc
  obtain ⟨n0, n1, n2, n3, n4, n5⟩ := jA ((HNB.out _ HB1.out).2)
  go_wp2_with fail
  refine (pJ n _ (HNB.out _ HB1.out).2.net HC.out.lins).mono ?_
  rintro e w2 ⟨cs, rfl, hcs, hcd, hb⟩
  have HS := aB hcs
  have HD := aB hcd
  have HO2 := aB (aq HO.out hb)
  have HB2 : Hid (Below (X + 1) W w2) := HB1.out.trans (hb.mono (aG HWL.out HB1.out.size))
  have hv0 : ∀ Y, w2.heap.size <= Y -> (Value.slice A 0 c).ownBlock ≠ some Y := fun Y hY h => by
   have := (HO2.out.lt Y h).2
   omega
  have HV0 := aB hv0
  clear hcs hcd hb HO HB1 n0 n1 n2 n3 n4 n5 hv0
  have hone := mat_one HS.out HD.out
  have HONE := aB hone; clear hone
  have HSZ : Hid ((Tryz.zeroCells117).size = cs.size) := by show _ = _; rw [sf, HS.out]; simp
  have HSI : Hid ((Tryz.prog.info? 117).map (·.size) = some cs.size) := by show _ = _; rw [HS.out]; exact pY
  have hnew := aC w2 (.cells Tryz.zeroCells117 117)
  have HNEW := aB hnew
  have hrow := setRow_heap (w2.alloc (.cells Tryz.zeroCells117 117)) w2.heap.size _ cs _ (0, 0) hnew
  have HBL : Hid (Blk ((w2.alloc (.cells Tryz.zeroCells117 117)).setRow w2.heap.size cs) w2.heap.size (de (am n))) := ⟨cs, hrow, HS.out, HD.out⟩
  have HO3 : Hid (((w2.alloc (.cells Tryz.zeroCells117 117)).setRow w2.heap.size cs).ownsRow (X + 1) 150 3 (.slice A 0 c) 0 []) := (HO2.out.alloc _).kept (nI _ _ _) (.inr (HV0.out _ (aH _)))
  have HB3 : Hid (Below (X + 1) W ((w2.alloc (.cells Tryz.zeroCells117 117)).setRow w2.heap.size cs)) := gD (HB2.out.alloc (aG HWL.out HB2.out.size) _) (nI _ w2.heap.size cs) (aG HWL.out HB2.out.size) (aG HWL.out (aG HB2.out.size (by simp)))
  have HV3 := aB (HV0.out _ (aH _))
  have HXY : Hid (X + 1 <= w2.heap.size) := aG HWL.out HB2.out.size
  have n3 : ((w2.alloc (.cells Tryz.zeroCells117 117)).setRow w2.heap.size cs).cell? (aV X 3) = some (.slice n.offA n.offs.length n.offC) := (HNB.out _ HB3.out).2.box 3 _ rfl
  clear hnew hrow HO2 HB2 HV0 HS HD
  go_wp2_with (refine wpList_store_row (by rfl) 117 (.tmp 4) (.tmp 14) (by rfl) w2.heap.size cs (by rfl) (by rfl) 117 _ HNEW.out HSI.out HSZ.out HONE.out ?_)
  change Code.wp _ _ _ _ ((w2.alloc (.cells Tryz.zeroCells117 117)).setRow w2.heap.size cs)
  generalize ((w2.alloc (.cells Tryz.zeroCells117 117)).setRow w2.heap.size cs) = W3 at *
  generalize w2.heap.size = Y at *
  clear n3
  go_loopw [18, 3] (fun i v wr => ∃ (k m : Nat) (xs : List Value), k <= n.offs.length /\ m <= k /\ i = iV k /\ Hid (wr.ownsRow (X + 1) 150 3 v m xs) /\ Hid (∀ x ∈ xs, x.oneCell' = true) /\ Hid (v.ownBlock ≠ some Y) /\ Hid (Blk wr Y (de (am n))) /\ Hid (Below (X + 1) W wr) /\ Hid (m = 0 ↔ ∀ b < k, ∀ a < n.offs.length, de (am n) a b ≠ -1)) (fun i _ _ => 13 - (intOf i).toNat)
  case atStart => exact ⟨0, 0, [], by omega, by omega, rfl, HO3.out, (fun x hx => by cases hx), HV3.out, HBL.out, HB3.out, ⟨fun _ b hb => by omega, fun _ => rfl⟩⟩
  case round =>
   clear HO3 HBL HB3 HV3 H1
   obtain ⟨k, m, xs, hk, hmk, rfl, HO, H1, HV, HBL, HB, HQ⟩ := hrel
   obtain ⟨A2, c2, rfl⟩ := b9 HO.out
   have k0 : (0 : Int) <= (k : Int) := by omega
   by_cases hlt : k < n.offs.length
   ·have k1 : (k : Int) < (n.offs.length : Int) := by omega
    have k2 : (k : Int) < 12 := by omega
    have n3 : wr.cell? (aV X 3) = some (.slice n.offA n.offs.length n.offC) := (HNB.out _ HB.out).2.box 3 _ rfl
    go_wp2
    clear n3
    go_loop [24, 3] (fun i v => ∃ a : Nat, a <= n.offs.length /\ i = iV a /\ v = .slice A2 m c2 /\ Hid (∀ j < a, de (am n) j k ≠ -1)) (fun i _ => 13 - (intOf i).toNat)
    case atStart => exact ⟨0, by omega, rfl, rfl, fun j hj => by omega⟩
    case round =>
     obtain ⟨a, ha, rfl, rfl, HJ⟩ := hrel
     have a0 : (0 : Int) <= (a : Int) := by omega
     by_cases hat : a < n.offs.length
     ·have a1 : (a : Int) < (n.offs.length : Int) := by omega
      have a2 : (a : Int) < 12 := by omega
      obtain ⟨d1, -⟩ := HBL.out.cell (show a < 12 by omega) (show k < 12 by omega)
      by_cases hd : de (am n) a k = -1
      ·have g1 : (de (am n) a k == -1) = true := by simpa using hd
       have HBAD : Hid (m + 1 = 0 ↔ ∀ b < k + 1, ∀ a < n.offs.length, de (am n) a b ≠ -1) := ⟨fun h => by omega, fun h => absurd hd (h k (by omega) a hat)⟩
       clear hd
       go_wp2_with (refine bg (by rfl) (.tmp 33) (.tmp 36) 85 85 (by rfl) (X + 1) 150 i0 _ 3 24 Tryz.underlying85 hi0 hz0 hz1 hz2 (by rfl) _ m xs (by rfl) (HO.out.alloc (.cells #[iV 3, iV k, iV 111] 150)) _ (by rfl) 1 [iV 3, iV k, iV 111] (fB 3 Tryz.underlying85 (Rd.new _ [iV 3, iV k, iV 111] _) rfl (by simp [Value.oneCell'])) (by unfold maxLen; omega) (by omega) (by have := HWL.out; have := HB.out.size; simp; omega) ?_; intro A4 c4 w4 ho hgr hbl; have HO4 := aB ho; have HB4 := aB (bp (HB.out.alloc (aG HWL.out HB.out.size) _) HWL.out (HO.out.alloc _) (aH _) hgr); have HBL4 : Hid (Blk w4 Y (de (am n))) := (HBL.out.below (ba _ _)).kept (hgr.block Y (HBL.out.below (ba _ _)).lt (fun e => HV.out e.symm)); have HV4 := aB (ru hbl HV.out (by have := HBL.out.lt; simp; omega)); clear ho hgr hbl)
       go_roundw
       case rel => exact ⟨k + 1, m + 1, xs ++ [iV 3, iV k, iV 111], by omega, by omega, by go_num, HO4.out, fI H1.out, HV4.out, HBL4.out, HB4.out, HBAD.out⟩
       case measure => simp [intOf]; omega
      ·have g1 : (de (am n) a k == -1) = false := by simpa using hd
       have HJ2 : Hid (∀ j < a + 1, de (am n) j k ≠ -1) := fun j hj => by
        rcases Nat.lt_or_ge j a with h | h
        ·exact HJ.out j h
        ·obtain rfl : j = a := by omega
         exact hd
       clear hd
       go_wp2
       go_round
       case rel => exact ⟨a + 1, by omega, by go_num, rfl, HJ2.out⟩
       case measure => simp [intOf]; omega
     ·have a1 : ¬ (a : Int) < (n.offs.length : Int) := by omega
      have HG : Hid (m = 0 ↔ ∀ b < k + 1, ∀ a < n.offs.length, de (am n) a b ≠ -1) := HQ.out.trans ⟨fun h b hb j hj => by
       rcases Nat.lt_or_ge b k with h1 | h1
       ·exact h b h1 j hj
       ·obtain rfl : b = k := by omega
        exact HJ.out j (by omega), fun h b hb => h b (by omega)⟩
      go_wp2
      go_roundw
      case rel => exact ⟨k + 1, m, xs, by omega, by omega, by go_num, HO.out, H1.out, HV.out, HBL.out, HB.out, HG.out⟩
      case measure => simp [intOf]; omega
   ·have k1 : ¬ (k : Int) < (n.offs.length : Int) := by omega
    go_wp2
    go_ret
    exact ⟨A2, m, c2, xs, rfl, cn HO.out (by have := HX.out; omega), H1.out, HQ.out.trans ⟨fun h => ⟨HC.out, fun b hb => h b (by omega)⟩, fun h b hb => h.2 b (by omega)⟩, by omega, (HNB.out _ HB.out).1⟩
theorem fR (N : Nat) (n : Net) (w : World) (hn : br w N n) (hk : KW w) (hs : bM n) :
  Calls Tryz.prog 57 #[.pointer (some (aV N 0))] w fun e w' => e = .returned (.bool true) /\ Below w.heap.size w w' := by
 obtain ⟨n0, n1, n2, n3, n4, n5⟩ := jA hn
 have HN := aB hn; clear hn
 have HK := aB hk; clear hk
 have HS := aB hs; clear hs
 go_enter Tryz.func57, Tryz.ntmps57
 go_wp2_with fail
 refine (gg n _ HN.out.net HK.out).mono ?_
 rintro e w1 ⟨A, m, c, xs, rfl, -, -, hm, -, hb⟩
 obtain rfl : m = 0 := hm.2 HS.out
 have HB := aB hb; clear hb hm n0 n1 n2 n3 n4 n5
 go_wp2
 go_ret
 exact ⟨rfl, HB.out⟩
theorem kh (N : Nat) (n : Net) (w : World) (hn : br w N n) (hk : KW w) (hs : ¬ bM n) :
  Calls Tryz.prog 57 #[.pointer (some (aV N 0))] w fun e w' => e = .returned (.bool false) /\ Below w.heap.size w w' := by
 obtain ⟨n0, n1, n2, n3, n4, n5⟩ := jA hn
 have HN := aB hn; clear hn
 have HK := aB hk; clear hk
 have HS := aB hs; clear hs
 go_enter Tryz.func57, Tryz.ntmps57
 go_wp2_with fail
 refine (gg n _ HN.out.net HK.out).mono ?_
 rintro e w1 ⟨A, m, c, xs, rfl, -, -, hm, hmb, hb⟩
 have hm0 : 0 < m := by
  rcases Nat.eq_zero_or_pos m with h | h
  ·exact absurd (hm.1 h) HS.out
  ·exact h
 have e1 : ((m : Int) == 0) = false := by simp; omega
 have HB := aB hb; clear hb hm n0 n1 n2 n3 n4 n5
 go_wp2
 go_ret
 exact ⟨rfl, HB.out⟩
end Go.Proofs.YtpeaiphdkgifaaaGreatDoor
