/-
  The walks over the reference's Check and Sound, law's right. The walk over the reference's Sound. (As gen_refj.py prints it.)
-/
import Derived.Test.YtpeaiphdkgifaaaGreatDoorWax
namespace Go.Proofs.YtpeaiphdkgifaaaGreatDoor
open Go.RowKit
set_option maxHeartbeats 20000000
set_option maxRecDepth 100000
theorem kept_walk {n : Net} (hc : Cons n) {a b : Nat} (ha : a < 12) (hb : b < 12) {L : Int} (h : Wlk (edgesOf n) a b L) : distM (edgesOf n) a b ≠ -1 := (dist_le (by omega) (edges_in hc.lins) ha hb h).1
def ChkS (w : World) (n : Net) (e : Ending) (w' : World) : Prop := ∃ A m c, e = .returned (.slice A m c) /\ (m = 0 -> Sound n) /\ m <= 400 /\ Below w.heap.size w w'
def Away (w : World) (v : Value) (A3 : Option Addr) (rows : List NsC) : Prop :=
 Rd w A3 (rows.map slI) /\ (∀ a, A3 = some a -> v.ownBlock ≠ some a.block /\ a.block < w.heap.size) /\ ∀ (j : Nat) (r : NsC), rows[j]? = some r -> (∃ g, r.A = some ⟨g, 0, none⟩ /\ v.ownBlock ≠ some g /\ g < w.heap.size) /\ Rd w r.A (r.ns.map iV)
theorem Away.alloc {w : World} {v : Value} {A3 : Option Addr} {rows : List NsC} (h : Away w v A3 rows) (o : Obj) : Away (w.alloc o) v A3 rows :=
 ⟨h.1.below (ba w o), fun a ha => ⟨(h.2.1 a ha).1, by have := (h.2.1 a ha).2; simp; omega⟩, fun j r hr => by
  obtain ⟨⟨g, a, b, c⟩, d⟩ := h.2.2 j r hr
  exact ⟨⟨g, a, b, by simp; omega⟩, d.below (ba w o)⟩⟩
theorem Away.app {w w' : World} {v v' : Value} {A3 : Option Addr} {rows : List NsC} (h : Away w v A3 rows) (hg : w.grownBy w' v.ownBlock) (hb : v'.ownBlock = v.ownBlock ∨ ∃ q, v'.ownBlock = some q /\ w.heap.size <= q) : Away w' v' A3 rows := by
 have hne : ∀ g, g < w.heap.size -> v.ownBlock ≠ some g -> v'.ownBlock ≠ some g := fun g hg hn e => by
  rcases hb with hb | ⟨q, hb, hq⟩
  ·exact hn (hb.symm.trans e)
  ·rw [hb] at e
   cases e
   omega
 refine ⟨h.1.same hg.size fun a ha hl => hg.block _ hl fun q => (h.2.1 a ha).1 q.symm, fun a ha => ⟨hne _ (h.2.1 a ha).2 (h.2.1 a ha).1, Nat.lt_of_lt_of_le (h.2.1 a ha).2 hg.size⟩, fun j r hr => ?_⟩
 obtain ⟨⟨g, a, b, c⟩, d⟩ := h.2.2 j r hr
 refine ⟨⟨g, a, hne g c b, Nat.lt_of_lt_of_le c hg.size⟩, d.same hg.size fun x hx hl => ?_⟩
 rw [a] at hx
 cases hx
 exact hg.block _ hl fun q => b q.symm
theorem rcheck_any (n : Net) (w : World) (hn : NetIn w n) (hf : FewN n) :
  Calls Tryz.prog 143 #[netV n] w (ChkS w n) := by
 obtain ⟨i0, hi0, hz0, hz1, hz2⟩ := info_parts ftInfo
 have hb0 := ba w (netO n)
 have hx0 := heap_alloc_new w (netO n)
 have HNP : Hid (NetP (w.alloc (netO n)) w.heap.size n) := ⟨fun i v hv => (cell_of_row _ _ _ _ _ _ hx0).trans hv, hn.below hb0⟩
 have HNW := Lib.hid hn
 have HF := Lib.hid hf
 have HB0 := Lib.hid hb0
 have HWL : Hid (w.heap.size + 1 <= (w.alloc (netO n)).heap.size) := block_lt hx0
 clear hn hf hb0 hx0
 go_enter Tryz.func143, Tryz.ntmps143
 go_upto_region 1 with fail
 change Code.wp _ _ _ _ (w.alloc (netO n))
 generalize (w.alloc (netO n)) = W at *
 generalize hX : w.heap.size = X at *
 have HX := Lib.hid hX; clear hX
 have HNB : Hid (∀ wr, Below (X + 1) W wr -> Below w.heap.size w wr /\ NetP wr X n) := fun wr hb => box_keep HNW.out HX.out HB0.out HNP.out.box hb
 have n0 : W.cell? ⟨X, 0, none⟩ = some (.slice n.calA n.cals.length n.calC) := HNP.out.box 0 _ rfl
 have n1 : W.cell? ⟨X, 1, none⟩ = some (.slice n.namA n.names.length n.namC) := HNP.out.box 1 _ rfl
 have n2 : W.cell? ⟨X, 2, none⟩ = some (.slice n.opA n.ops.length n.opC) := HNP.out.box 2 _ rfl
 have n3 : W.cell? ⟨X, 3, none⟩ = some (.slice n.offA n.offs.length n.offC) := HNP.out.box 3 _ rfl
 have n4 : W.cell? ⟨X, 4, none⟩ = some (.slice n.linA n.lins.length n.linC) := HNP.out.box 4 _ rfl
 have n5 : W.cell? ⟨X, 5, none⟩ = some (.slice n.clsA n.clss.length n.clsC) := HNP.out.box 5 _ rfl
 go_wp2_with fail
 refine (faults_any n _ HNP.out.net HF.out).mono ?_
 rintro e w1 ⟨A, m, c, xs, rfl, ho, h1, hm, hmb, hb⟩
 have HB1 : Hid (Below (X + 1) W w1) := hb.mono HWL.out
 have HO1 := Lib.hid (own_base ho HWL.out)
 have HM := Lib.hid hm
 clear ho h1 hm hb n0 n1 n2 n3 n4 n5
 by_cases hc : Cons n
 case neg =>
  have hm0 : 0 < m := by
   rcases Nat.eq_zero_or_pos m with h | h
   ·exact absurd (HM.out.1 h) hc
   ·exact h
  have hm1 : (0 : Int) < (m : Int) := by omega
  clear hc
  go_wp2_with fail
  go_ret
  exact ⟨A, m, c, rfl, fun h => by omega, by omega, (HNB.out _ HB1.out).1⟩
 obtain rfl : m = 0 := HM.out.2 hc
 obtain rfl : xs = [] := List.eq_nil_of_length_eq_zero (by simpa using HO1.out.1)
 have HC := Lib.hid hc
 have hN12 := hc.off.1
 clear hc HM
 have n0 : w1.cell? ⟨X, 0, none⟩ = some (.slice n.calA n.cals.length n.calC) := (HNB.out _ HB1.out).2.box 0 _ rfl
 have n1 : w1.cell? ⟨X, 1, none⟩ = some (.slice n.namA n.names.length n.namC) := (HNB.out _ HB1.out).2.box 1 _ rfl
 have n2 : w1.cell? ⟨X, 2, none⟩ = some (.slice n.opA n.ops.length n.opC) := (HNB.out _ HB1.out).2.box 2 _ rfl
 have n3 : w1.cell? ⟨X, 3, none⟩ = some (.slice n.offA n.offs.length n.offC) := (HNB.out _ HB1.out).2.box 3 _ rfl
 have n4 : w1.cell? ⟨X, 4, none⟩ = some (.slice n.linA n.lins.length n.linC) := (HNB.out _ HB1.out).2.box 4 _ rfl
 have n5 : w1.cell? ⟨X, 5, none⟩ = some (.slice n.clsA n.clss.length n.clsC) := (HNB.out _ HB1.out).2.box 5 _ rfl
 go_wp2_with fail
 refine (dist_any n _ (HNB.out _ HB1.out).2.net HF.out HC.out).mono ?_
 rintro e w2 ⟨A3, c3, rows, rfl, hrl, hrd, hfr, hrows, hb⟩
 have HB2 : Hid (Below (X + 1) W w2) := HB1.out.trans (hb.mono (Nat.le_trans HWL.out HB1.out.size))
 have HO2 := Lib.hid (own_below HO1.out hb)
 have HLT := Lib.hid (fun q hq => (HO1.out.lt q hq).2)
 have HS2 : Hid (Away w2 (.slice A 0 c) A3 rows) := ⟨hrd, fun a ha => ⟨fun h => by have := (HO1.out.lt _ h).2; have := (hfr a ha).1; omega, (hfr a ha).2⟩, fun j r hr => by
  obtain ⟨⟨g, a, b, d⟩, e, -⟩ := hrows j r hr
  exact ⟨⟨g, a, fun h => by have := (HO1.out.lt _ h).2; omega, d⟩, e⟩⟩
 have HRW : Hid (∀ j r, rows[j]? = some r -> ∃ C, RowOk (edgesOf n) n.offs.length j C r.ns) := fun j r hr => (hrows j r hr).2.2
 have HRL := Lib.hid hrl
 clear hb hrl hrd hfr hrows n0 n1 n2 n3 n4 n5 HO1 HB1 HLT
 generalize hN : n.offs.length = N at *
 have HN := Lib.hid hN; clear hN
 go_wp2_with fail
 go_loopw [5, 3] (fun i v wr => ∃ (k m : Nat) (xs : List Value), k <= N /\ m <= k /\ i = iV k /\ Hid (wr.ownsRow (X + 1) 150 3 v m xs) /\ Hid (Below (X + 1) W wr) /\ Hid (Away wr v A3 rows) /\ Hid (m = 0 -> ∀ b < k, ∀ a < N, distM (edgesOf n) a b ≠ -1)) (fun i _ _ => 60 - (intOf i).toNat)
 case atStart => exact ⟨0, 0, [], by omega, by omega, rfl, HO2.out, HB2.out, HS2.out, fun _ b hb => by omega⟩
 case round =>
 clear HO2 HB2 HS2
 obtain ⟨k, m, xs, hk, hm, rfl, HO, HB, HS, HQ⟩ := hrel
 obtain ⟨A2, c2, rfl⟩ := own_form HO.out
 have k0 : (0 : Int) <= (k : Int) := by omega
 by_cases hlt : k < N
 case neg =>
  have k1 : ¬ (k : Int) < (N : Int) := by omega
  have HFIN : Hid (m = 0 -> Sound n) := fun h => ⟨HC.out, fun b hb a ha => HQ.out h b (by have := HN.out; omega) a (by have := HN.out; omega)⟩
  go_wp2_with fail
  go_ret
  exact ⟨A2, m, c2, rfl, HFIN.out, by omega, (HNB.out _ HB.out).1⟩
 have k1 : (k : Int) < (N : Int) := by omega
 go_wp2_with fail
 go_loop [7, 6] (fun i v => ∃ (a : Nat) (b : Bool), a <= N /\ i = iV a /\ v = .bool b /\ Hid (b = false -> ∀ j < a, distM (edgesOf n) j k ≠ -1)) (fun i _ => 60 - (intOf i).toNat)
 case atStart => exact ⟨0, false, by omega, rfl, rfl, fun _ j hj => by omega⟩
 case round =>
 obtain ⟨a, b, ha, rfl, rfl, HJ⟩ := hrel
 have a0 : (0 : Int) <= (a : Int) := by omega
 by_cases hat : a < N
 case pos =>
  have a1 : (a : Int) < (N : Int) := by omega
  cases b
  case true =>
   have HJ2 : Hid (true = false -> ∀ j < a + 1, distM (edgesOf n) j k ≠ -1) := fun h => by cases h
   go_wp2_with fail
   go_round
   case rel => exact ⟨a + 1, true, by omega, by go_num, rfl, fun h => by cases h⟩
   case measure => simp [intOf]; omega
  obtain ⟨r, hr⟩ : ∃ r, rows[a]? = some r := ⟨_, List.getElem?_eq_getElem (by have := HRL.out; omega)⟩
  obtain ⟨C, hrok⟩ := HRW.out a r hr
  obtain ⟨v, hv⟩ : ∃ v, r.ns[k]? = some v := ⟨_, List.getElem?_eq_getElem (by have := hrok.1; have := HN.out; omega)⟩
  have HV := Lib.hid (hrok.2 k v hv)
  have hrl : r.ns.length = N := by have := hrok.1; have := HN.out; omega
  obtain ⟨⟨g, hgA, -, -⟩, hrr⟩ := HS.out.2.2 a r hr
  obtain ⟨db, dof, hdA, -, hdc⟩ := HS.out.1.get (i := a) (by rw [List.length_map]; have := HRL.out; omega)
  have x1 : wr.cell? ⟨db, dof + a, none⟩ = some (.slice (some ⟨g, 0, none⟩) N r.c) := hdc a _ (by rw [List.getElem?_map, hr]; show some (Value.slice r.A r.ns.length r.c) = _; rw [hgA, hrl])
  have x2 : wr.cell? ⟨g, k, none⟩ = some (iV v) := by
   rw [hgA] at hrr
   have hlen : k < r.ns.length := by omega
   have := hrr.cell (i := k) (by rw [List.length_map]; exact hlen)
   rw [Nat.zero_add] at this
   rw [this]
   congr 1
   have h5 := (List.getElem?_eq_some_iff.1 hv).2
   simp [h5]
  have HDA := Lib.hid hdA
  subst hdA
  clear hdc hrr hr hv hgA hrok hrl
  by_cases hv0 : v < 0
  ·have HJ2 : Hid (true = false -> ∀ j < a + 1, distM (edgesOf n) j k ≠ -1) := fun h => by cases h
   go_wp2_with fail
   go_round
   case rel => exact ⟨a + 1, true, by omega, by go_num, rfl, fun h => by cases h⟩
   case measure => simp [intOf]; omega
  ·have HJ2 : Hid (∀ j < a + 1, distM (edgesOf n) j k ≠ -1) := fun j hj => by
    rcases Nat.lt_or_ge j a with h | h
    ·exact HJ.out rfl j h
    ·obtain rfl : j = a := by omega
     rcases HV.out with h2 | ⟨-, -, h2⟩
     ·exfalso; omega
     ·exact kept_walk HC.out (by omega) (by omega) h2
   go_wp2_with fail
   go_round
   case rel => exact ⟨a + 1, false, by omega, by go_num, rfl, fun _ => HJ2.out⟩
   case measure => simp [intOf]; omega
 have a1 : ¬ (a : Int) < (N : Int) := by omega
 cases b
 case false =>
  have HQ2 : Hid (m = 0 -> ∀ b < k + 1, ∀ a < N, distM (edgesOf n) a b ≠ -1) := fun h b hb j hj => by
   rcases Nat.lt_or_ge b k with h1 | h1
   ·exact HQ.out h b h1 j hj
   ·obtain rfl : b = k := by omega
    exact HJ.out rfl j (by omega)
  go_wp2_with fail
  go_roundw
  case rel => exact ⟨k + 1, m, xs, by omega, by omega, by go_num, HO.out, HB.out, HS.out, HQ2.out⟩
  case measure => simp [intOf]; omega
 go_wp2_with (refine wpList_app (by rfl) (.tmp 40) (.tmp 43) 85 85 (by rfl) (X + 1) 150 i0 _ 3 24 Tryz.underlying85 hi0 hz0 hz1 hz2 (by rfl) _ m xs (by rfl) (HO.out.alloc (.cells #[iV 3, iV k, iV 111] 150)) _ (by rfl) 1 [iV 3, iV k, iV 111] (src_k 3 Tryz.underlying85 (Rd.new _ [iV 3, iV k, iV 111] _) rfl (by simp [Value.oneCell'])) (by unfold maxLen; omega) (by omega) (by have := HWL.out; have := HB.out.size; simp; omega) ?_; intro A5 c5 w4 ho hgr hbl; have HO4 := Lib.hid ho; have HB4 := Lib.hid (app_below (HB.out.alloc (Nat.le_trans HWL.out HB.out.size) _) HWL.out (HO.out.alloc _) (Nat.le_refl _) hgr); have HS4 := Lib.hid ((HS.out.alloc (.cells #[iV 3, iV k, iV 111] 150)).app hgr (hbl.imp id fun e => ⟨_, e, Nat.le_refl _⟩)); clear ho hgr hbl)
 go_roundw
 case rel => exact ⟨k + 1, m + 1, xs ++ [iV 3, iV k, iV 111], by omega, by omega, by go_num, HO4.out, HB4.out, HS4.out, fun h => by omega⟩
 case measure => simp [intOf]; omega
theorem rsound_any (n : Net) (w : World) (hn : NetIn w n) (hf : FewN n) :
  Calls Tryz.prog 84 #[netV n] w fun e w' => BoolR (fun b => b = true -> Sound n) e /\ Below w.heap.size w w' := by
 have hb0 := ba w (netO n)
 have hx0 := heap_alloc_new w (netO n)
 have HNP : Hid (NetP (w.alloc (netO n)) w.heap.size n) := ⟨fun i v hv => (cell_of_row _ _ _ _ _ _ hx0).trans hv, hn.below hb0⟩
 have HB0 := Lib.hid hb0
 have HF := Lib.hid hf
 clear hn hf hb0 hx0
 go_enter Tryz.func84, Tryz.ntmps84
 go_upto_region 1 with fail
 change Code.wp _ _ _ _ (w.alloc (netO n))
 generalize (w.alloc (netO n)) = W at *
 generalize hX : w.heap.size = X at *
 have HX := Lib.hid hX; clear hX
 have HNB : Hid (∀ wr, Below W.heap.size W wr -> Below w.heap.size w wr) := fun wr hb => by have h := HB0.out; rw [<- HX.out] at h; exact bt h hb
 have n0 : W.cell? ⟨X, 0, none⟩ = some (.slice n.calA n.cals.length n.calC) := (HNP.out).box 0 _ rfl
 have n1 : W.cell? ⟨X, 1, none⟩ = some (.slice n.namA n.names.length n.namC) := (HNP.out).box 1 _ rfl
 have n2 : W.cell? ⟨X, 2, none⟩ = some (.slice n.opA n.ops.length n.opC) := (HNP.out).box 2 _ rfl
 have n3 : W.cell? ⟨X, 3, none⟩ = some (.slice n.offA n.offs.length n.offC) := (HNP.out).box 3 _ rfl
 have n4 : W.cell? ⟨X, 4, none⟩ = some (.slice n.linA n.lins.length n.linC) := (HNP.out).box 4 _ rfl
 have n5 : W.cell? ⟨X, 5, none⟩ = some (.slice n.clsA n.clss.length n.clsC) := (HNP.out).box 5 _ rfl
 go_wp2_with fail
 refine (rcheck_any n _ HNP.out.net HF.out).mono ?_
 rintro e w1 ⟨A, m, c, rfl, hm, hmb, hb⟩
 have HM := Lib.hid hm
 have HB := Lib.hid hb
 clear hm hb n0 n1 n2 n3 n4 n5
 by_cases h0 : m = 0
 ·have HS : Hid (Sound n) := HM.out h0
  subst h0
  clear HM
  go_wp2_with fail
  go_ret
  exact ⟨⟨true, rfl, fun _ => HS.out⟩, HNB.out _ HB.out⟩
 ·have e1 : ((m : Int) == 0) = false := by simp; omega
  clear h0
  go_wp2_with fail
  go_ret
  exact ⟨⟨false, rfl, fun h => by cases h⟩, HNB.out _ HB.out⟩
end Go.Proofs.YtpeaiphdkgifaaaGreatDoor
