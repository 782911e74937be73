/-
  The walk over survey.relaxed: the distances between the offices. The walks over survey.Check and promise.sound.
-/
import Derived.Test.YtpeaiphdkgifaaaGreatDoorWal
import Derived.Test.YtpeaiphdkgifaaaGreatDoorWad
import Derived.Laws.Rows
import Derived.Laws.Tables
import Derived.IntWalk
namespace Go.Proofs.YtpeaiphdkgifaaaGreatDoor
open Go.RowKit
set_option maxHeartbeats 20000000
set_option maxRecDepth 100000
def edgesOf (n : Net) : List (Nat × Nat × Int) := n.lins.map fun l => (l.frm.toNat, l.to.toNat, l.travel)
def LinsIn (n : Net) : Prop := ∀ l ∈ n.lins, 0 <= l.frm /\ l.frm < 12 /\ 0 <= l.to /\ l.to < 12 /\ 0 <= l.travel /\ l.travel <= 5000
theorem edges_in {n : Net} (h : LinsIn n) : EdgesIn (edgesOf n) 5000 := by
 intro e he
 obtain ⟨l, hl, rfl⟩ := List.mem_map.1 he
 have := h l hl
 dsimp only
 omega
theorem edges_step (es : List (Nat × Nat × Int)) (k : Nat) (e : Nat × Nat × Int) (h : es[k]? = some e) : edgesM (es.take (k + 1)) = relaxM (edgesM (es.take k)) e.1 e.2.1 e.2.2 := by
 unfold edgesM
 rw [List.take_add_one, h, List.foldl_append]
 rfl
theorem mid_rng {es : List (Nat × Nat × Int)} (he : EdgesIn es 5000) {k m j : Nat} (hk : k < 12) (a b : Nat) : rowM k m j (stageM k m (allM k (edgesM es))) a b = -1 ∨ 0 <= rowM k m j (stageM k m (allM k (edgesM es))) a b /\ rowM k m j (stageM k m (allM k (edgesM es))) a b <= 41000000 := by
 have h1 := (all_ok (by omega) he k (by omega)).1
 have hp : (5000 : Int) * 2 ^ k <= 20480000 := by
  rcases (by omega : k = 0 ∨ k = 1 ∨ k = 2 ∨ k = 3 ∨ k = 4 ∨ k = 5 ∨ k = 6 ∨ k = 7 ∨ k = 8 ∨ k = 9 ∨ k = 10 ∨ k = 11) with rfl | rfl | rfl | rfl | rfl | rfl | rfl | rfl | rfl | rfl | rfl | rfl <;> decide
 have hp0 : 0 <= (5000 : Int) * 2 ^ k := Int.mul_nonneg (by omega) (Int.pow_nonneg (by omega))
 have h2 := ((MidM.stage hp0 h1 k m).rows h1 m j).ok.rng a b
 rcases h2 with h2 | h2
 ·exact .inl h2
 ·exact .inr ⟨h2.1, by omega⟩
theorem mid_same {es : List (Nat × Nat × Int)} (he : EdgesIn es 5000) {k m j : Nat} (hk : k < 12) : rowM k m (j + 1) (stageM k m (allM k (edgesM es))) m k = rowM k m j (stageM k m (allM k (edgesM es))) m k /\ rowM k m (j + 1) (stageM k m (allM k (edgesM es))) k j = rowM k m j (stageM k m (allM k (edgesM es))) k j := by
 have h1 := (all_ok (by omega) he k (by omega)).1
 have hp0 : 0 <= (5000 : Int) * 2 ^ k := Int.mul_nonneg (by omega) (Int.pow_nonneg (by omega))
 have h2 := (MidM.stage hp0 h1 k m).rows h1 m j
 have h3 := (MidM.stage hp0 h1 k m).rows h1 m (j + 1)
 exact ⟨(h3.col m).trans (h2.col m).symm, (h3.row j).trans (h2.row j).symm⟩
def RelaxedR (w : World) (n : Net) (e : Ending) (w' : World) : Prop :=
 ∃ cs : Array Value, e = .returned (.agg cs) /\ cs.size = 144 /\ (∀ a b, a < 12 -> b < 12 -> cs[a * 12 + b]? = some (iV (distM (edgesOf n) a b))) /\ Below w.heap.size w w'
theorem mat_size : (Tryz.prog.info? 117).map (·.size) = some 144 := by kernel_rfl
def initM (i j : Nat) : Mat := fun a b => if a = b then 0 else if a < i ∨ a = i /\ b < j then -1 else 0
theorem initM_zero (a b : Nat) : initM 0 0 a b = 0 := by simp [initM]
theorem initM_next (i j : Nat) (h : i ≠ j) : updM (initM i j) i j (-1) = initM i (j + 1) := by
 funext a b
 unfold updM initM
 by_cases h1 : a = i /\ b = j
 ·obtain ⟨rfl, rfl⟩ := h1
  simp [h]
 ·rw [if_neg h1]
  by_cases hab : a = b
  ·simp [hab]
  ·rw [if_neg hab, if_neg hab]
   have : (a < i ∨ a = i /\ b < j) ↔ (a < i ∨ a = i /\ b < j + 1) := by omega
   simp only [this]
theorem initM_same (i : Nat) : initM i i = initM i (i + 1) := by
 funext a b
 unfold initM
 by_cases hab : a = b
 ·simp [hab]
 ·rw [if_neg hab, if_neg hab]
  have : (a < i ∨ a = i /\ b < i) ↔ (a < i ∨ a = i /\ b < i + 1) := by omega
  simp only [this]
theorem Blk.congr {w : World} {R : Nat} {M N : Mat} (h : Blk w R M) (he : ∀ a b, a < 12 -> b < 12 -> M a b = N a b) : Blk w R N := by
 obtain ⟨cs, h1, h2, h3⟩ := h
 exact ⟨cs, h1, h2, fun a b ha hb => by rw [h3 a b ha hb, he a b ha hb]⟩
theorem zc_eq : Tryz.zeroCells117 = Array.replicate 144 (iV 0) := by kernel_rfl
theorem Blk.zero {w : World} {R : Nat} (h : w.heap[R]? = some (.cells Tryz.zeroCells117 117 (0, 0))) : Blk w R (initM 0 0) :=
 ⟨_, h, by rw [zc_eq]; simp, fun a b ha hb => by rw [initM_zero, zc_eq, Array.getElem?_replicate, if_pos (by omega)]⟩
theorem Blk.one {w : World} {R : Nat} {M : Mat} (h : Blk w R M) : ∃ cs : Array Value, w.heap[R]? = some (.cells cs 117 (0, 0)) /\ cs.size = 144 /\ (∀ a b, a < 12 -> b < 12 -> cs[a * 12 + b]? = some (iV (M a b))) /\ cs.all (·.oneCell') = true := by
 obtain ⟨cs, h1, h2, h3⟩ := h
 refine ⟨cs, h1, h2, h3, ?_⟩
 rw [Array.all_eq_true]
 intro i hi
 have hq := Nat.div_add_mod i 12
 have hm := Nat.mod_lt i (show 12 > 0 by omega)
 have := h3 (i / 12) (i % 12) (by omega) hm
 rw [show i / 12 * 12 + i % 12 = i by omega, Array.getElem?_eq_getElem hi] at this
 rw [Option.some.inj this]
 rfl
theorem initM_row (k a b : Nat) (hb : b < 12) : initM k 12 a b = initM (k + 1) 0 a b := by
 unfold initM
 by_cases hab : a = b
 ·simp [hab]
 ·rw [if_neg hab, if_neg hab]
  have : (a < k ∨ a = k /\ b < 12) ↔ (a < k + 1 ∨ a = k + 1 /\ b < 0) := by omega
  simp only [this]
theorem initM_end (a b : Nat) (ha : a < 12) : initM 12 0 a b = edgesM [] a b := by
 unfold initM edgesM zeroM
 by_cases hab : a = b
 ·simp [hab]
 ·simp [hab, ha]
theorem below_grown {B R : Nat} {a b c : World} (h : Below B a b) (hg : b.grownBy c (some R)) (hR : B <= R) (hB : B <= b.heap.size) : Below B a c :=
 ⟨hg.os.trans h.os, hg.tape.trans h.tape, hg.output.trans h.output, Nat.le_trans h.size hg.size, fun i hi => (hg.block i (Nat.lt_of_lt_of_le hi hB) (by simp; omega)).trans (h.block i hi)⟩
theorem relaxed_any (n : Net) (w : World) (hn : NetIn w n) (hL : LinsIn n) :
  Calls Tryz.prog 51 #[netV n] w (RelaxedR w n) := by
 have HL := Lib.hid hL; clear hL
 have HE := Lib.hid (edges_in HL.out)
 have hll := hn.lens.2.2.2.2.1
 unfold maxLen at hll
 have HB0 : Hid (Below w.heap.size w (((w.alloc (netO n)).alloc (.cells Tryz.zeroCells117 117)).alloc (.cells Tryz.zeroCells117 117))) := (((Below.refl _ w).alloc (Nat.le_refl _) _).alloc (by simp) _).alloc (by simp; omega) _
 have HX : Hid ((((w.alloc (netO n)).alloc (.cells Tryz.zeroCells117 117)).alloc (.cells Tryz.zeroCells117 117)).heap[w.heap.size]? = some (netO n)) := (Below.heap_alloc _ _ _ (by simp; omega)).trans ((Below.heap_alloc _ _ _ (by simp)).trans (heap_alloc_new _ _))
 have HQ0 : Hid ((((w.alloc (netO n)).alloc (.cells Tryz.zeroCells117 117)).alloc (.cells Tryz.zeroCells117 117)).heap[w.heap.size + 1]? = some (.cells Tryz.zeroCells117 117 (0, 0))) := by
  refine (Below.heap_alloc _ _ _ (by simp)).trans ?_
  have := heap_alloc_new (w.alloc (netO n)) (.cells Tryz.zeroCells117 117)
  rwa [World.size_alloc] at this
 have HR0 : Hid ((((w.alloc (netO n)).alloc (.cells Tryz.zeroCells117 117)).alloc (.cells Tryz.zeroCells117 117)).heap[w.heap.size + 1 + 1]? = some (.cells Tryz.zeroCells117 117 (0, 0))) := by
  have := heap_alloc_new ((w.alloc (netO n)).alloc (.cells Tryz.zeroCells117 117)) (.cells Tryz.zeroCells117 117)
  rwa [World.size_alloc, World.size_alloc] at this
 have HN := Lib.hid hn; clear hn
 go_enter Tryz.func51, Tryz.ntmps51
 go_upto_region 3 with fail
 change Code.wp _ _ _ _ (((w.alloc (netO n)).alloc (.cells Tryz.zeroCells117 117)).alloc (.cells Tryz.zeroCells117 117))
 generalize (((w.alloc (netO n)).alloc (.cells Tryz.zeroCells117 117)).alloc (.cells Tryz.zeroCells117 117)) = W0 at *
 generalize hX : w.heap.size = X at *
 generalize hQ : X + 1 = Q at *
 generalize hR : Q + 1 = R at *
 have HXE := Lib.hid hX; clear hX
 have HQE := Lib.hid hQ; clear hQ
 have HRE := Lib.hid hR; clear hR
 have HNB : Hid (∀ wr, Below R W0 wr -> NetIn wr n) := fun wr h => HN.out.below (by rw [HXE.out]; exact HB0.out.trans (h.mono (by have := HQE.out; have := HRE.out; omega)))
 have HRW : Hid (R < W0.heap.size) := block_lt HR0.out
 go_loopw [12] (fun i wr => ∃ k : Nat, k <= 12 /\ i = iV k /\ Hid (Below R W0 wr) /\ Hid (Blk wr R (initM k 0))) (fun i _ => 13 - (intOf i).toNat)
 case atStart => exact ⟨0, by omega, rfl, Below.refl _ _, Blk.zero HR0.out⟩
 case round =>
  obtain ⟨k, hk, rfl, HB, HM⟩ := hrel
  have k0 : (0 : Int) <= (k : Int) := by omega
  by_cases hlt : k < 12
  ·have k1 : (k : Int) < 12 := by omega
   go_wp2
   go_loopw [15] (fun i wr => ∃ m : Nat, m <= 12 /\ i = iV m /\ Hid (Below R W0 wr) /\ Hid (Blk wr R (initM k m))) (fun i _ => 13 - (intOf i).toNat)
   case atStart => exact ⟨0, by omega, rfl, HB.out, HM.out⟩
   case round =>
    clear HB HM
    obtain ⟨m, hm, rfl, HB, HM⟩ := hrel
    have m0 : (0 : Int) <= (m : Int) := by omega
    by_cases hmt : m < 12
    ·have m1 : (m : Int) < 12 := by omega
     by_cases hkm : k = m
     ·subst hkm
      have e1 : ((k : Int) != (k : Int)) = false := by simp
      have HM2 : Hid (initM k k = initM k (k + 1)) := initM_same k
      go_wp2
      go_roundw
      case rel => exact ⟨k + 1, by omega, by go_num, HB.out, by rw [<- HM2.out]; exact HM.out⟩
      case measure => simp [intOf]; omega
     ·have e1 : ((k : Int) != (m : Int)) = true := by simp; omega
      have e2 : ((k : Int) == (m : Int)) = false := by simp; omega
      obtain ⟨hc, hf⟩ := HM.out.cell hlt hmt
      have HM2 : Hid (Blk (wr.setCell ⟨R, k * 12 + m, none⟩ (iV (-1))) R (initM k (m + 1))) := by
       have := HM.out.set hlt hmt (-1)
       rwa [initM_next k m hkm] at this
      have HB2 : Hid (Below R W0 (wr.setCell ⟨R, k * 12 + m, none⟩ (iV (-1)))) := HB.out.setCell (Nat.le_refl _) _
      clear hkm
      go_wp2
      go_roundw
      case rel => exact ⟨m + 1, by omega, by go_num, HB2.out, HM2.out⟩
      case measure => simp [intOf]; omega
    ·have m1 : ¬ (m : Int) < 12 := by omega
     have hm12 : m = 12 := by omega
     have HM2 : Hid (Blk wr R (initM (k + 1) 0)) := by
      rw [hm12] at HM
      exact HM.out.congr fun a b _ hb => initM_row k a b hb
     clear hm12
     go_wp2
     go_roundw
     case rel => exact ⟨k + 1, by omega, by go_num, HB.out, HM2.out⟩
     case measure => simp [intOf]; omega
  ·have k1 : ¬ (k : Int) < 12 := by omega
   have hk12 : k = 12 := by omega
   have HM2 : Hid (Blk wr R (edgesM ((edgesOf n).take 0))) := by
    rw [hk12] at HM
    exact HM.out.congr fun a b ha _ => initM_end a b ha
   have HXb := Lib.hid ((HB.out.block X (by have := HQE.out; have := HRE.out; omega)).trans HX.out)
   have n4 : wr.cell? ⟨X, 4, none⟩ = some (.slice n.linA n.lins.length n.linC) := cell_of_row _ _ 4 _ _ _ HXb.out
   have HBS := Lib.hid HB.out
   clear hk12 HM
   go_wp2
   clear HB n4 HXb
   go_loopw [31] (fun i wr => ∃ m : Nat, m <= n.lins.length /\ i = iV m /\ Hid (Below R W0 wr) /\ Hid (Blk wr R (edgesM ((edgesOf n).take m)))) (fun i _ => n.lins.length + 1 - (intOf i).toNat)
   case atStart => exact ⟨0, by omega, rfl, HBS.out, HM2.out⟩
   case round =>
    clear HM2 HBS
    obtain ⟨m, hm, rfl, HB, HM⟩ := hrel
    have m0 : (0 : Int) <= (m : Int) := by omega
    by_cases hmt : m < n.lins.length
    ·have m1 : (m : Int) < (n.lins.length : Int) := by omega
     have hlm := List.mem_of_getElem? (linAt_get hmt)
     have HLN : Hid ((edgesOf n)[m]? = some ((linAt n m).frm.toNat, (linAt n m).to.toNat, (linAt n m).travel)) := by
      show _ = _
      unfold edgesOf
      rw [List.getElem?_map, linAt_get hmt]
      rfl
     obtain ⟨r1, r2, r3, r4, r5, r6⟩ := HL.out _ hlm
     obtain ⟨fa, hfa⟩ : ∃ a : Nat, (linAt n m).frm = (a : Int) := ⟨(linAt n m).frm.toNat, by omega⟩
     obtain ⟨fb, hfb⟩ : ∃ a : Nat, (linAt n m).to = (a : Int) := ⟨(linAt n m).to.toNat, by omega⟩
     have ha12 : fa < 12 := by omega
     have hb12 : fb < 12 := by omega
     have hea : (linAt n m).frm.toNat = fa := by omega
     have heb : (linAt n m).to.toNat = fb := by omega
     rw [hea, heb] at HLN
     have HST : Hid (edgesM ((edgesOf n).take (m + 1)) = relaxM (edgesM ((edgesOf n).take m)) fa fb (linAt n m).travel) := edges_step _ _ _ HLN.out
     obtain ⟨-, lb, lo, hlA, -, hl0, hlc⟩ := elem_at encLin_len (HNB.out _ HB.out).lins (linAt_get hmt) (by omega)
     have c0 : wr.cell? ⟨lb, lo + m * 6, none⟩ = some (sV (linAt n m).name) := hl0 _ rfl
     have c1 : wr.cell? ⟨lb, lo + m * 6 + 1, none⟩ = some (iV (linAt n m).frm) := hlc 1 _ rfl
     have c2 : wr.cell? ⟨lb, lo + m * 6 + 2, none⟩ = some (iV (linAt n m).to) := hlc 2 _ rfl
     have c3 : wr.cell? ⟨lb, lo + m * 6 + 3, none⟩ = some (iV (linAt n m).at_) := hlc 3 _ rfl
     have c4 : wr.cell? ⟨lb, lo + m * 6 + 4, none⟩ = some (iV (linAt n m).travel) := hlc 4 _ rfl
     have c5 : wr.cell? ⟨lb, lo + m * 6 + 5, none⟩ = some (iV (linAt n m).load) := hlc 5 _ rfl
     rw [hfa] at c1
     rw [hfb] at c2
     have HLA := Lib.hid hlA
     generalize (linAt n m).travel = tv at *
     clear hl0 hlc hea heb hfa hfb hlm r1 r2 r3 r4 HLN
     rw [hlA]
     clear hlA
     have HRl : Hid (R < wr.heap.size) := HM.out.lt
     have HB2 : Hid (Below R W0 (wr.alloc (.cells #[sV (linAt n m).name, iV fa, iV fb, iV (linAt n m).at_, iV tv, iV (linAt n m).load] 52))) := HB.out.alloc (Nat.le_of_lt HRl.out) _
     have HM2 : Hid (Blk (wr.alloc (.cells #[sV (linAt n m).name, iV fa, iV fb, iV (linAt n m).at_, iV tv, iV (linAt n m).load] 52)) R (edgesM ((edgesOf n).take m))) := HM.out.below (ba _ _)
     have hLN : (wr.alloc (.cells #[sV (linAt n m).name, iV fa, iV fb, iV (linAt n m).at_, iV tv, iV (linAt n m).load] 52)).heap[wr.heap.size]? = some (.cells #[sV (linAt n m).name, iV fa, iV fb, iV (linAt n m).at_, iV tv, iV (linAt n m).load] 52) := heap_alloc_new _ _
     have b1 : (wr.alloc (.cells #[sV (linAt n m).name, iV fa, iV fb, iV (linAt n m).at_, iV tv, iV (linAt n m).load] 52)).cell? ⟨wr.heap.size, 1, none⟩ = some (iV fa) := cell_of_row _ _ 1 _ _ _ hLN
     have b2 : (wr.alloc (.cells #[sV (linAt n m).name, iV fa, iV fb, iV (linAt n m).at_, iV tv, iV (linAt n m).load] 52)).cell? ⟨wr.heap.size, 2, none⟩ = some (iV fb) := cell_of_row _ _ 2 _ _ _ hLN
     have b4 : (wr.alloc (.cells #[sV (linAt n m).name, iV fa, iV fb, iV (linAt n m).at_, iV tv, iV (linAt n m).load] 52)).cell? ⟨wr.heap.size, 4, none⟩ = some (iV tv) := cell_of_row _ _ 4 _ _ _ hLN
     clear hLN HM HB
     go_upto_region 16 with fail
     change Code.wp _ _ _ _ (wr.alloc (.cells #[sV (linAt n m).name, iV fa, iV fb, iV (linAt n m).at_, iV tv, iV (linAt n m).load] 52))
     generalize (wr.alloc (.cells #[sV (linAt n m).name, iV fa, iV fb, iV (linAt n m).at_, iV tv, iV (linAt n m).load] 52)) = W1 at *
     go_wp2_with fail
     refine (relax_any R _ fa fb tv _ HM2.out ha12 hb12).mono ?_
     rintro e w2 ⟨rfl, hM3, hg3⟩
     rw [<- HST.out] at hM3
     have HM3 := Lib.hid hM3; clear hM3
     have HB3 : Hid (Below R W0 w2) := below_grown HB2.out hg3 (Nat.le_refl _) (Nat.le_of_lt HM2.out.lt)
     clear hg3 b1 b2 b4 c0 c1 c2 c3 c4 c5
     go_wp2_with fail
     go_roundw
     case rel => exact ⟨m + 1, by omega, by go_num, HB3.out, HM3.out⟩
     case measure => simp [intOf]; omega
    ·have m1 : ¬ (m : Int) < (n.lins.length : Int) := by omega
     have HM4 : Hid (Blk wr R (allM 0 (edgesM (edgesOf n)))) := by
      have h1 : m = (edgesOf n).length := by simp [edgesOf]; omega
      have := HM.out
      rw [h1, List.take_length] at this
      exact this
     have HB4 := Lib.hid HB.out
     clear HM HB
     go_wp2
     go_loopw [44] (fun i wr => ∃ k : Nat, k <= 12 /\ i = iV k /\ Hid (Below R W0 wr) /\ Hid (Blk wr R (allM k (edgesM (edgesOf n))))) (fun i _ => 13 - (intOf i).toNat)
     case atStart => exact ⟨0, by omega, rfl, HB4.out, HM4.out⟩
     case round =>
      clear HM4 HB4
      obtain ⟨q, hq, rfl, HB, HM⟩ := hrel
      have q0 : (0 : Int) <= (q : Int) := by omega
      by_cases hqt : q < 12
      ·have q1 : (q : Int) < 12 := by omega
       go_wp2
       go_loopw [47] (fun i wr => ∃ s : Nat, s <= 12 /\ i = iV s /\ Hid (Below R W0 wr) /\ Hid (Blk wr R (stageM q s (allM q (edgesM (edgesOf n)))))) (fun i _ => 13 - (intOf i).toNat)
       case atStart => exact ⟨0, by omega, rfl, HB.out, HM.out⟩
       case round =>
        clear HM HB
        obtain ⟨s, hs, rfl, HB, HM⟩ := hrel
        have s0 : (0 : Int) <= (s : Int) := by omega
        by_cases hst : s < 12
        ·have s1 : (s : Int) < 12 := by omega
         go_wp2
         go_loopw [50] (fun i wr => ∃ u : Nat, u <= 12 /\ i = iV u /\ Hid (Below R W0 wr) /\ Hid (Blk wr R (rowM q s u (stageM q s (allM q (edgesM (edgesOf n))))))) (fun i _ => 13 - (intOf i).toNat)
         case atStart => exact ⟨0, by omega, rfl, HB.out, HM.out⟩
         case round =>
          clear HM HB
          obtain ⟨u, hu, rfl, HB, HM⟩ := hrel
          have u0 : (0 : Int) <= (u : Int) := by omega
          by_cases hut : u < 12
          ·have u1 : (u : Int) < 12 := by omega
           have hr1 := mid_rng HE.out (m := s) (j := u) hqt s q
           have hr2 := mid_rng HE.out (m := s) (j := u) hqt q u
           have HST : Hid (rowM q s (u + 1) (stageM q s (allM q (edgesM (edgesOf n)))) = stepM q s (rowM q s u (stageM q s (allM q (edgesM (edgesOf n))))) u) := rowM_succ _ _ _ _
           obtain ⟨hcol, hrow⟩ := mid_same HE.out (k := q) (m := s) (j := u) hqt
           have HCOL := Lib.hid hcol; clear hcol
           have HROW := Lib.hid hrow; clear hrow
           generalize rowM q s u (stageM q s (allM q (edgesM (edgesOf n)))) = M at *
           obtain ⟨d1, -⟩ := HM.out.cell hst hqt
           obtain ⟨d2, -⟩ := HM.out.cell hqt hut
           by_cases g1 : M s q = -1
           ·have g1' : (M s q != -1) = false := by simpa using g1
            have HR1 : Hid (stepM q s M u = M) := if_neg (fun h => h.1 g1)
            clear g1
            go_wp2_with fail
            go_roundw
            case rel => exact ⟨u + 1, by omega, by go_num, HB.out, by rw [HST.out, HR1.out]; exact HM.out⟩
            case measure => simp [intOf]; omega
           ·have g1' : (M s q != -1) = true := by simpa using g1
            by_cases g2 : M q u = -1
            ·have g2' : (M q u != -1) = false := by simpa using g2
             have HR1 : Hid (stepM q s M u = M) := if_neg (fun h => h.2 g2)
             clear g1 g2
             go_wp2_with fail
             go_roundw
             case rel => exact ⟨u + 1, by omega, by go_num, HB.out, by rw [HST.out, HR1.out]; exact HM.out⟩
             case measure => simp [intOf]; omega
            ·have g2' : (M q u != -1) = true := by simpa using g2
             have HR1 : Hid (stepM q s M u = relaxM M s u (M s q + M q u)) := if_pos ⟨g1, g2⟩
             have b1 := (hr1.resolve_left g1).1
             have b2 := (hr1.resolve_left g1).2
             have b3 := (hr2.resolve_left g2).1
             have b4 := (hr2.resolve_left g2).2
             have hsum : IntKind.i64.wrap (M s q + M q u) = M s q + M q u := IntWalk.i64_in _ (by omega)
             have hRl := HM.out.lt
             have HKA : Hid (∀ w', Below wr.heap.size wr w' -> w'.cell? ⟨R, s * 12 + q, none⟩ = some (iV (M s q)) /\ w'.cell? ⟨R, q * 12 + u, none⟩ = some (iV (M q u))) := fun w' hb => ⟨(hb.cell (p := ⟨R, _, none⟩) hRl).trans d1, (hb.cell (p := ⟨R, _, none⟩) hRl).trans d2⟩
             have HKB : Hid (∀ w', Blk w' R (rowM q s (u + 1) (stageM q s (allM q (edgesM (edgesOf n))))) -> w'.cell? ⟨R, s * 12 + q, none⟩ = some (iV (M s q)) /\ w'.cell? ⟨R, q * 12 + u, none⟩ = some (iV (M q u))) := fun w' hb => ⟨by have := (hb.cell hst hqt).1; rwa [HCOL.out] at this, by have := (hb.cell hqt hut).1; rwa [HROW.out] at this⟩
             clear g1 g2 hr1 hr2 b1 b2 b3 b4
             go_upto_region 28 with fail
             go_region_held3 (fun w' => w'.cell? ⟨R, s * 12 + q, none⟩ = some (iV (M s q)) /\ w'.cell? ⟨R, q * 12 + u, none⟩ = some (iV (M q u))) (first | (with_reducible exact HKA.out _ (b_drew (Below.refl _ _))) | (with_reducible exact HKB.out _ HM3.out)) ((go_at_call 127; refine (relax_any R M s u (M s q + M q u) _ (HM.out.below (b_drew (Below.refl _ _))) hst hut).mono ?_; rintro e w2 ⟨rfl, hM3, hg3⟩; rw [<- HR1.out, <- HST.out] at hM3; have HM3 := Lib.hid hM3; clear hM3; have HB3 : Hid (Below R W0 w2) := below_grown (HB.out.drew) hg3 (Nat.le_refl _) (Nat.le_of_lt HM.out.lt); clear hg3))
             clear d1 d2 hsum
             go_wp2_with fail
             go_roundw
             case rel => exact ⟨u + 1, by omega, by go_num, HB3.out, HM3.out⟩
             case measure => simp [intOf]; omega
          ·have u1 : ¬ (u : Int) < 12 := by omega
           have HM5 : Hid (Blk wr R (stageM q (s + 1) (allM q (edgesM (edgesOf n))))) := by
            have h1 : u = 12 := by omega
            have := HM.out
            rw [h1] at this
            rw [stageM_succ]
            exact this
           clear HM
           go_wp2
           go_roundw
           case rel => exact ⟨s + 1, by omega, by go_num, HB.out, HM5.out⟩
           case measure => simp [intOf]; omega
        ·have s1 : ¬ (s : Int) < 12 := by omega
         have HM5 : Hid (Blk wr R (allM (q + 1) (edgesM (edgesOf n)))) := by
          have h1 : s = 12 := by omega
          have := HM.out
          rw [h1] at this
          rw [allM_succ]
          exact this
         clear HM
         go_wp2
         go_roundw
         case rel => exact ⟨q + 1, by omega, by go_num, HB.out, HM5.out⟩
         case measure => simp [intOf]; omega
      ·have q1 : ¬ (q : Int) < 12 := by omega
       have HM6 : Hid (Blk wr R (distM (edgesOf n))) := by
        have h1 : q = 12 := by omega
        have := HM.out
        rw [h1] at this
        exact this
       obtain ⟨cs, h1, h2, h3, h4⟩ := HM6.out.one
       have H1 := Lib.hid h1; clear h1
       have H2 := Lib.hid h2; clear h2
       have H3 := Lib.hid h3; clear h3
       have H4 := Lib.hid h4; clear h4
       have HQb := Lib.hid ((HB.out.block Q (by have := HRE.out; omega)).trans HQ0.out)
       have HSZ : Hid ((Tryz.zeroCells117).size = cs.size) := by show _ = _; rw [zc_eq, H2.out]; simp
       have HSI : Hid ((Tryz.prog.info? 117).map (·.size) = some cs.size) := by show _ = _; rw [H2.out]; exact mat_size
       clear HM HM6
       go_wp2_with (first | (refine wpList_load_row (by rfl) 117 (.tmp 3) (by rfl) R (by rfl) 117 cs (0, 0) _ H1.out Tryz.underlying117 (by rfl) HSI.out ?_) | (refine wpList_store_row (by rfl) 117 (.tmp 2) (.tmp 85) (by rfl) Q cs (by rfl) (by rfl) 117 _ HQb.out HSI.out HSZ.out H4.out ?_))
       have hQ := setRow_heap wr Q _ cs _ (0, 0) HQb.out
       refine bodyPost_ret (v := .agg cs) (results_cell_row rfl _ _ Q 117 cs (0, 0) _ (by rfl) hQ Tryz.underlying117 (by rfl) HSI.out) rfl ⟨cs, rfl, H2.out, H3.out, ?_⟩
       have h5 : Below X w wr := HB0.out.trans (HB.out.mono (by have := HQE.out; have := HRE.out; omega))
       rw [HXE.out]
       exact ⟨h5.os, h5.tape, h5.output, by simp; exact h5.size, fun i hi => (setRow_other _ _ _ _ (by have := HQE.out; omega)).trans (h5.block i hi)⟩
def Sound (n : Net) : Prop := Cons n /\ ∀ b < n.offs.length, ∀ a < n.offs.length, distM (edgesOf n) a b ≠ -1
theorem fromB_iff {v a b : Int} : fromB v a b = true ↔ a <= v /\ v <= b := by unfold fromB; simp
theorem indexB_iff {i : Int} {k : Nat} : indexB i k = true ↔ 0 <= i /\ i < (k : Int) := by unfold indexB; simp
theorem minuteB_iff {v : Int} : minuteB v = true ↔ 0 <= v /\ v <= 1439 := by unfold minuteB; exact fromB_iff
theorem lineB_iff {n : Net} {l : Lin} : lineB n l = true ↔ (0 <= l.frm /\ l.frm < (n.offs.length : Int)) /\ (0 <= l.to /\ l.to < (n.offs.length : Int)) /\ l.frm ≠ l.to /\ (0 <= l.at_ /\ l.at_ <= 1439) /\ (1 <= l.travel /\ l.travel <= 5000) /\ (1 <= l.load /\ l.load <= 40) := by
 unfold lineB
 by_cases h : indexB l.frm n.offs.length = true /\ indexB l.to n.offs.length = true /\ l.frm ≠ l.to
 ·rw [if_pos h, Bool.and_eq_true, Bool.and_eq_true, minuteB_iff, fromB_iff, fromB_iff]
  exact ⟨fun h2 => ⟨indexB_iff.1 h.1, indexB_iff.1 h.2.1, h.2.2, h2.1.1, h2.1.2, h2.2⟩, fun h2 => ⟨⟨h2.2.2.2.1, h2.2.2.2.2.1⟩, h2.2.2.2.2.2⟩⟩
 ·rw [if_neg h]
  exact ⟨(fun h2 => by cases h2), fun h2 => absurd ⟨indexB_iff.2 h2.1, indexB_iff.2 h2.2.1, h2.2.2.1⟩ h⟩
theorem officeB_iff {n : Net} {o : Off} : officeB n o = true ↔ ((0 <= o.op /\ o.op < (n.ops.length : Int)) /\ (0 <= o.cal /\ o.cal < (n.cals.length : Int)) /\ o.codes.length <= 20 /\ o.codes.all codeB = true) /\ (2 <= o.pockets /\ o.pockets <= 64) /\ (1 <= o.passes /\ o.passes <= 4) /\ (1 <= o.minutes /\ o.minutes <= 240) := by
 unfold officeB
 by_cases h : indexB o.op n.ops.length = true /\ indexB o.cal n.cals.length = true /\ o.codes.length <= 20 /\ o.codes.all codeB = true
 ·rw [if_pos h, Bool.and_eq_true, Bool.and_eq_true, fromB_iff, fromB_iff, fromB_iff]
  exact ⟨fun h2 => ⟨⟨indexB_iff.1 h.1, indexB_iff.1 h.2.1, h.2.2⟩, h2.1.1, h2.1.2, h2.2⟩, fun h2 => ⟨⟨h2.2.1, h2.2.2.1⟩, h2.2.2.2⟩⟩
 ·rw [if_neg h]
  exact ⟨(fun h2 => by cases h2), fun h2 => absurd ⟨indexB_iff.2 h2.1.1, indexB_iff.2 h2.1.2.1, h2.1.2.2⟩ h⟩
theorem clsB_iff {k : Cls} : clsB k = true ↔ (0 <= k.cut /\ k.cut <= 1439) /\ 0 <= k.deliver /\ k.deliver <= 1439 := by
 unfold clsB
 rw [Bool.and_eq_true, minuteB_iff, minuteB_iff]
theorem ok_mem {α : Type} {nm : Nat -> List UInt8} {gd : α -> Bool} {L : List α} (h : ∀ i < L.length, okAt nm gd L i) : ∀ x ∈ L, gd x = true := fun x hx => by
 obtain ⟨i, hi, rfl⟩ := List.mem_iff_getElem.1 hx
 exact (h i hi).2.2 _ (List.getElem?_eq_getElem hi)
theorem Cons.good {n : Net} (h : Cons n) : Good n := by
 refine ⟨ok_mem h.cal.2, fun o ho => ?_, fun l hl => ?_, fun k hk => ?_, ⟨h.cal.1, h.off.1, h.lin.1, h.cls.1⟩⟩
 ·have := officeB_iff.1 (ok_mem h.off.2 o ho)
  exact ⟨this.1.2.1, this.2.2.1.1, this.2.2.1.2, this.2.2.2.1, this.2.2.2.2⟩
 ·have := lineB_iff.1 (ok_mem h.lin.2 l hl)
  exact ⟨this.1, this.2.1, this.2.2.2.1.1, by have := this.2.2.2.1.2; omega, this.2.2.2.2.1.1, this.2.2.2.2.1.2⟩
 ·have := clsB_iff.1 (ok_mem h.cls.2 k hk)
  exact ⟨this.1.1, by have := this.1.2; omega, this.2.1, by have := this.2.2; omega⟩
theorem Cons.lins {n : Net} (h : Cons n) : LinsIn n := fun l hl => by
 have h1 := h.good.lin l hl
 have h2 := h.off.1
 omega
theorem mat_one {cs : Array Value} {M : Mat} (h2 : cs.size = 144) (h3 : ∀ a b, a < 12 -> b < 12 -> cs[a * 12 + b]? = some (iV (M a b))) : cs.all (·.oneCell') = true := by
 rw [Array.all_eq_true]
 intro i hi
 have hq := Nat.div_add_mod i 12
 have hm := Nat.mod_lt i (show 12 > 0 by omega)
 have := h3 (i / 12) (i % 12) (by omega) hm
 rw [show i / 12 * 12 + i % 12 = i by omega, Array.getElem?_eq_getElem hi] at this
 rw [Option.some.inj this]
 rfl
theorem own_ne {v v' : Value} {X Y : Nat} (h : v'.ownBlock = v.ownBlock ∨ v'.ownBlock = some X) (hv : v.ownBlock ≠ some Y) (hX : Y ≠ X) : v'.ownBlock ≠ some Y := fun e => by
 rcases h with h | h
 ·exact hv (h.symm.trans e)
 ·rw [h] at e
  exact hX (Option.some.inj e).symm
theorem grown_row (w : World) (g : Nat) (cs : Array Value) : w.grownBy (w.setRow g cs) (some g) := ⟨rfl, rfl, rfl, by simp, fun k _ hk => setRow_other w g k _ (fun e => hk (by rw [e]))⟩
theorem scheck_any (n : Net) (w : World) (hn : NetIn w n) (hk : KW w) :
  Calls Tryz.prog 34 #[netV n] w (InconR w (Sound n)) := by
 obtain ⟨i0, hi0, hz0, hz1, hz2⟩ := info_parts ftInfo
 have hb0 := ba w (netO n)
 have hl := hn.lens.2.2.2.1
 unfold maxLen at hl
 have hx0 := heap_alloc_new w (netO n)
 have HNP : Hid (NetP (w.alloc (netO n)) w.heap.size n) := ⟨fun i v hv => (cell_of_row _ _ _ _ _ _ hx0).trans hv, hn.below hb0⟩
 have HK := Lib.hid hk
 have HNW := Lib.hid hn
 have HB0 := Lib.hid hb0
 have HWL : Hid (w.heap.size + 1 <= (w.alloc (netO n)).heap.size) := block_lt hx0
 clear hn hk hb0 hx0
 go_enter Tryz.func34, Tryz.ntmps34
 go_upto_region 1 with fail
 change Code.wp _ _ _ _ (w.alloc (netO n))
 generalize (w.alloc (netO n)) = W at *
 generalize hX : w.heap.size = X at *
 have HX := Lib.hid hX; clear hX
 have HNB : Hid (∀ wr, Below (X + 1) W wr -> Below w.heap.size w wr /\ NetP wr X n) := fun wr hb => box_keep HNW.out HX.out HB0.out HNP.out.box hb
 have n0 : W.cell? ⟨X, 0, none⟩ = some (.slice n.calA n.cals.length n.calC) := HNP.out.box 0 _ rfl
 have n1 : W.cell? ⟨X, 1, none⟩ = some (.slice n.namA n.names.length n.namC) := HNP.out.box 1 _ rfl
 have n2 : W.cell? ⟨X, 2, none⟩ = some (.slice n.opA n.ops.length n.opC) := HNP.out.box 2 _ rfl
 have n3 : W.cell? ⟨X, 3, none⟩ = some (.slice n.offA n.offs.length n.offC) := HNP.out.box 3 _ rfl
 have n4 : W.cell? ⟨X, 4, none⟩ = some (.slice n.linA n.lins.length n.linC) := HNP.out.box 4 _ rfl
 have n5 : W.cell? ⟨X, 5, none⟩ = some (.slice n.clsA n.clss.length n.clsC) := HNP.out.box 5 _ rfl
 go_wp2_with fail
 refine (incon_any n _ HNP.out.net (HK.out.below (HNB.out _ (Below.refl _ _)).1)).mono ?_
 rintro e w1 ⟨A, m, c, xs, rfl, ho, h1, hm, hmb, hb⟩
 have HO := Lib.hid (own_base ho HWL.out)
 have H1 := Lib.hid h1
 have HM := Lib.hid hm
 have HB1 := Lib.hid (hb.mono HWL.out)
 clear ho h1 hm hb n0 n1 n2 n3 n4 n5
 by_cases hc : Cons n
 case neg =>
  have hm0 : 0 < m := by
   rcases Nat.eq_zero_or_pos m with h | h
   ·exact absurd (HM.out.1 h) hc
   ·exact h
  have hm1 : (0 : Int) < (m : Int) := by omega
  have HC := Lib.hid hc; clear hc
  go_wp2
  go_ret
  exact ⟨A, m, c, xs, rfl, own_base HO.out (by have := HX.out; omega), H1.out, ⟨fun h => by omega, fun h => absurd h.1 HC.out⟩, by omega, (HNB.out _ HB1.out).1⟩
 case pos =>
  obtain rfl : m = 0 := HM.out.2 hc
  obtain rfl : xs = [] := List.eq_nil_of_length_eq_zero (by simpa using HO.out.1)
  have h12 := hc.off.1
  have HC := Lib.hid hc; clear hc
  have n0 : w1.cell? ⟨X, 0, none⟩ = some (.slice n.calA n.cals.length n.calC) := (HNB.out _ HB1.out).2.box 0 _ rfl
  have n1 : w1.cell? ⟨X, 1, none⟩ = some (.slice n.namA n.names.length n.namC) := (HNB.out _ HB1.out).2.box 1 _ rfl
  have n2 : w1.cell? ⟨X, 2, none⟩ = some (.slice n.opA n.ops.length n.opC) := (HNB.out _ HB1.out).2.box 2 _ rfl
  have n3 : w1.cell? ⟨X, 3, none⟩ = some (.slice n.offA n.offs.length n.offC) := (HNB.out _ HB1.out).2.box 3 _ rfl
  have n4 : w1.cell? ⟨X, 4, none⟩ = some (.slice n.linA n.lins.length n.linC) := (HNB.out _ HB1.out).2.box 4 _ rfl
  have n5 : w1.cell? ⟨X, 5, none⟩ = some (.slice n.clsA n.clss.length n.clsC) := (HNB.out _ HB1.out).2.box 5 _ rfl
  go_wp2_with fail
  refine (relaxed_any n _ (HNB.out _ HB1.out).2.net HC.out.lins).mono ?_
  rintro e w2 ⟨cs, rfl, hcs, hcd, hb⟩
  have HS := Lib.hid hcs
  have HD := Lib.hid hcd
  have HO2 := Lib.hid (own_below HO.out hb)
  have HB2 : Hid (Below (X + 1) W w2) := HB1.out.trans (hb.mono (Nat.le_trans HWL.out HB1.out.size))
  have hv0 : ∀ Y, w2.heap.size <= Y -> (Value.slice A 0 c).ownBlock ≠ some Y := fun Y hY h => by
   have := (HO2.out.lt Y h).2
   omega
  have HV0 := Lib.hid hv0
  clear hcs hcd hb HO HB1 n0 n1 n2 n3 n4 n5 hv0
  have hone := mat_one HS.out HD.out
  have HONE := Lib.hid hone; clear hone
  have HSZ : Hid ((Tryz.zeroCells117).size = cs.size) := by show _ = _; rw [zc_eq, HS.out]; simp
  have HSI : Hid ((Tryz.prog.info? 117).map (·.size) = some cs.size) := by show _ = _; rw [HS.out]; exact mat_size
  have hnew := heap_alloc_new w2 (.cells Tryz.zeroCells117 117)
  have HNEW := Lib.hid hnew
  have hrow := setRow_heap (w2.alloc (.cells Tryz.zeroCells117 117)) w2.heap.size _ cs _ (0, 0) hnew
  have HBL : Hid (Blk ((w2.alloc (.cells Tryz.zeroCells117 117)).setRow w2.heap.size cs) w2.heap.size (distM (edgesOf n))) := ⟨cs, hrow, HS.out, HD.out⟩
  have HO3 : Hid (((w2.alloc (.cells Tryz.zeroCells117 117)).setRow w2.heap.size cs).ownsRow (X + 1) 150 3 (.slice A 0 c) 0 []) := (HO2.out.alloc _).kept (grown_row _ _ _) (.inr (HV0.out _ (Nat.le_refl _)))
  have HB3 : Hid (Below (X + 1) W ((w2.alloc (.cells Tryz.zeroCells117 117)).setRow w2.heap.size cs)) := below_grown (HB2.out.alloc (Nat.le_trans HWL.out HB2.out.size) _) (grown_row _ w2.heap.size cs) (Nat.le_trans HWL.out HB2.out.size) (Nat.le_trans HWL.out (Nat.le_trans HB2.out.size (by simp)))
  have HV3 := Lib.hid (HV0.out _ (Nat.le_refl _))
  have HXY : Hid (X + 1 <= w2.heap.size) := Nat.le_trans HWL.out HB2.out.size
  have n3 : ((w2.alloc (.cells Tryz.zeroCells117 117)).setRow w2.heap.size cs).cell? ⟨X, 3, none⟩ = some (.slice n.offA n.offs.length n.offC) := (HNB.out _ HB3.out).2.box 3 _ rfl
  clear hnew hrow HO2 HB2 HV0 HS HD
  go_wp2_with (refine wpList_store_row (by rfl) 117 (.tmp 4) (.tmp 14) (by rfl) w2.heap.size cs (by rfl) (by rfl) 117 _ HNEW.out HSI.out HSZ.out HONE.out ?_)
  change Code.wp _ _ _ _ ((w2.alloc (.cells Tryz.zeroCells117 117)).setRow w2.heap.size cs)
  generalize ((w2.alloc (.cells Tryz.zeroCells117 117)).setRow w2.heap.size cs) = W3 at *
  generalize w2.heap.size = Y at *
  clear n3
  go_loopw [18, 3] (fun i v wr => ∃ (k m : Nat) (xs : List Value), k <= n.offs.length /\ m <= k /\ i = iV k /\ Hid (wr.ownsRow (X + 1) 150 3 v m xs) /\ Hid (∀ x ∈ xs, x.oneCell' = true) /\ Hid (v.ownBlock ≠ some Y) /\ Hid (Blk wr Y (distM (edgesOf n))) /\ Hid (Below (X + 1) W wr) /\ Hid (m = 0 ↔ ∀ b < k, ∀ a < n.offs.length, distM (edgesOf n) a b ≠ -1)) (fun i _ _ => 13 - (intOf i).toNat)
  case atStart => exact ⟨0, 0, [], by omega, by omega, rfl, HO3.out, (fun x hx => by cases hx), HV3.out, HBL.out, HB3.out, ⟨fun _ b hb => by omega, fun _ => rfl⟩⟩
  case round =>
   clear HO3 HBL HB3 HV3 H1
   obtain ⟨k, m, xs, hk, hmk, rfl, HO, H1, HV, HBL, HB, HQ⟩ := hrel
   obtain ⟨A2, c2, rfl⟩ := own_form HO.out
   have k0 : (0 : Int) <= (k : Int) := by omega
   by_cases hlt : k < n.offs.length
   ·have k1 : (k : Int) < (n.offs.length : Int) := by omega
    have k2 : (k : Int) < 12 := by omega
    have n3 : wr.cell? ⟨X, 3, none⟩ = some (.slice n.offA n.offs.length n.offC) := (HNB.out _ HB.out).2.box 3 _ rfl
    go_wp2
    clear n3
    go_loop [24, 3] (fun i v => ∃ a : Nat, a <= n.offs.length /\ i = iV a /\ v = .slice A2 m c2 /\ Hid (∀ j < a, distM (edgesOf n) j k ≠ -1)) (fun i _ => 13 - (intOf i).toNat)
    case atStart => exact ⟨0, by omega, rfl, rfl, fun j hj => by omega⟩
    case round =>
     obtain ⟨a, ha, rfl, rfl, HJ⟩ := hrel
     have a0 : (0 : Int) <= (a : Int) := by omega
     by_cases hat : a < n.offs.length
     ·have a1 : (a : Int) < (n.offs.length : Int) := by omega
      have a2 : (a : Int) < 12 := by omega
      obtain ⟨d1, -⟩ := HBL.out.cell (show a < 12 by omega) (show k < 12 by omega)
      by_cases hd : distM (edgesOf n) a k = -1
      ·have g1 : (distM (edgesOf n) a k == -1) = true := by simpa using hd
       have HBAD : Hid (m + 1 = 0 ↔ ∀ b < k + 1, ∀ a < n.offs.length, distM (edgesOf n) a b ≠ -1) := ⟨fun h => by omega, fun h => absurd hd (h k (by omega) a hat)⟩
       clear hd
       go_wp2_with (refine wpList_app (by rfl) (.tmp 33) (.tmp 36) 85 85 (by rfl) (X + 1) 150 i0 _ 3 24 Tryz.underlying85 hi0 hz0 hz1 hz2 (by rfl) _ m xs (by rfl) (HO.out.alloc (.cells #[iV 3, iV k, iV 111] 150)) _ (by rfl) 1 [iV 3, iV k, iV 111] (src_k 3 Tryz.underlying85 (Rd.new _ [iV 3, iV k, iV 111] _) rfl (by simp [Value.oneCell'])) (by unfold maxLen; omega) (by omega) (by have := HWL.out; have := HB.out.size; simp; omega) ?_; intro A4 c4 w4 ho hgr hbl; have HO4 := Lib.hid ho; have HB4 := Lib.hid (app_below (HB.out.alloc (Nat.le_trans HWL.out HB.out.size) _) HWL.out (HO.out.alloc _) (Nat.le_refl _) hgr); have HBL4 : Hid (Blk w4 Y (distM (edgesOf n))) := (HBL.out.below (ba _ _)).kept (hgr.block Y (HBL.out.below (ba _ _)).lt (fun e => HV.out e.symm)); have HV4 := Lib.hid (own_ne hbl HV.out (by have := HBL.out.lt; simp; omega)); clear ho hgr hbl)
       go_roundw
       case rel => exact ⟨k + 1, m + 1, xs ++ [iV 3, iV k, iV 111], by omega, by omega, by go_num, HO4.out, one3 H1.out, HV4.out, HBL4.out, HB4.out, HBAD.out⟩
       case measure => simp [intOf]; omega
      ·have g1 : (distM (edgesOf n) a k == -1) = false := by simpa using hd
       have HJ2 : Hid (∀ j < a + 1, distM (edgesOf n) j k ≠ -1) := fun j hj => by
        rcases Nat.lt_or_ge j a with h | h
        ·exact HJ.out j h
        ·obtain rfl : j = a := by omega
         exact hd
       clear hd
       go_wp2
       go_round
       case rel => exact ⟨a + 1, by omega, by go_num, rfl, HJ2.out⟩
       case measure => simp [intOf]; omega
     ·have a1 : ¬ (a : Int) < (n.offs.length : Int) := by omega
      have HG : Hid (m = 0 ↔ ∀ b < k + 1, ∀ a < n.offs.length, distM (edgesOf n) a b ≠ -1) := HQ.out.trans ⟨fun h b hb j hj => by
       rcases Nat.lt_or_ge b k with h1 | h1
       ·exact h b h1 j hj
       ·obtain rfl : b = k := by omega
        exact HJ.out j (by omega), fun h b hb => h b (by omega)⟩
      go_wp2
      go_roundw
      case rel => exact ⟨k + 1, m, xs, by omega, by omega, by go_num, HO.out, H1.out, HV.out, HBL.out, HB.out, HG.out⟩
      case measure => simp [intOf]; omega
   ·have k1 : ¬ (k : Int) < (n.offs.length : Int) := by omega
    go_wp2
    go_ret
    exact ⟨A2, m, c2, xs, rfl, own_base HO.out (by have := HX.out; omega), H1.out, HQ.out.trans ⟨fun h => ⟨HC.out, fun b hb => h b (by omega)⟩, fun h b hb => h.2 b (by omega)⟩, by omega, (HNB.out _ HB.out).1⟩
theorem sound_yes (N : Nat) (n : Net) (w : World) (hn : NetP w N n) (hk : KW w) (hs : Sound n) :
  Calls Tryz.prog 57 #[.pointer (some ⟨N, 0, none⟩)] w fun e w' => e = .returned (.bool true) /\ Below w.heap.size w w' := by
 have n0 : w.cell? ⟨N, 0, none⟩ = some (.slice n.calA n.cals.length n.calC) := hn.box 0 _ rfl
 have n1 : w.cell? ⟨N, 1, none⟩ = some (.slice n.namA n.names.length n.namC) := hn.box 1 _ rfl
 have n2 : w.cell? ⟨N, 2, none⟩ = some (.slice n.opA n.ops.length n.opC) := hn.box 2 _ rfl
 have n3 : w.cell? ⟨N, 3, none⟩ = some (.slice n.offA n.offs.length n.offC) := hn.box 3 _ rfl
 have n4 : w.cell? ⟨N, 4, none⟩ = some (.slice n.linA n.lins.length n.linC) := hn.box 4 _ rfl
 have n5 : w.cell? ⟨N, 5, none⟩ = some (.slice n.clsA n.clss.length n.clsC) := hn.box 5 _ rfl
 have HN := Lib.hid hn; clear hn
 have HK := Lib.hid hk; clear hk
 have HS := Lib.hid hs; clear hs
 go_enter Tryz.func57, Tryz.ntmps57
 go_wp2_with fail
 refine (scheck_any n _ HN.out.net HK.out).mono ?_
 rintro e w1 ⟨A, m, c, xs, rfl, -, -, hm, -, hb⟩
 obtain rfl : m = 0 := hm.2 HS.out
 have HB := Lib.hid hb; clear hb hm n0 n1 n2 n3 n4 n5
 go_wp2
 go_ret
 exact ⟨rfl, HB.out⟩
theorem sound_no (N : Nat) (n : Net) (w : World) (hn : NetP w N n) (hk : KW w) (hs : ¬ Sound n) :
  Calls Tryz.prog 57 #[.pointer (some ⟨N, 0, none⟩)] w fun e w' => e = .returned (.bool false) /\ Below w.heap.size w w' := by
 have n0 : w.cell? ⟨N, 0, none⟩ = some (.slice n.calA n.cals.length n.calC) := hn.box 0 _ rfl
 have n1 : w.cell? ⟨N, 1, none⟩ = some (.slice n.namA n.names.length n.namC) := hn.box 1 _ rfl
 have n2 : w.cell? ⟨N, 2, none⟩ = some (.slice n.opA n.ops.length n.opC) := hn.box 2 _ rfl
 have n3 : w.cell? ⟨N, 3, none⟩ = some (.slice n.offA n.offs.length n.offC) := hn.box 3 _ rfl
 have n4 : w.cell? ⟨N, 4, none⟩ = some (.slice n.linA n.lins.length n.linC) := hn.box 4 _ rfl
 have n5 : w.cell? ⟨N, 5, none⟩ = some (.slice n.clsA n.clss.length n.clsC) := hn.box 5 _ rfl
 have HN := Lib.hid hn; clear hn
 have HK := Lib.hid hk; clear hk
 have HS := Lib.hid hs; clear hs
 go_enter Tryz.func57, Tryz.ntmps57
 go_wp2_with fail
 refine (scheck_any n _ HN.out.net HK.out).mono ?_
 rintro e w1 ⟨A, m, c, xs, rfl, -, -, hm, hmb, hb⟩
 have hm0 : 0 < m := by
  rcases Nat.eq_zero_or_pos m with h | h
  ·exact absurd (hm.1 h) HS.out
  ·exact h
 have e1 : ((m : Int) == 0) = false := by simp; omega
 have HB := Lib.hid hb; clear hb hm n0 n1 n2 n3 n4 n5
 go_wp2
 go_ret
 exact ⟨rfl, HB.out⟩
end Go.Proofs.YtpeaiphdkgifaaaGreatDoor
