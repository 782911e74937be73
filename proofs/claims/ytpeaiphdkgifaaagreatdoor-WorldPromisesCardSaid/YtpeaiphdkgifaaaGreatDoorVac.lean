/- The walks over the calendar's iterator: the working days among some -/
import Derived.Test.YtpeaiphdkgifaaaGreatDoorVab
import Derived.RangeFuncFrom
import Derived.Laws.EntriesVeiled
import Derived.Deep.AppendSrc
import Derived.Defers
import Derived.Recover
namespace Go.Proofs.YtpeaiphdkgifaaaGreatDoor
open Go.RowKit
set_option maxHeartbeats 20000000
set_option maxRecDepth 100000
section
attribute [local go_sem] Oper.semAt_some
def bY (c : Cal) : Nat -> Int -> List Int
 | 0, _ => []
 | n + 1, d => (if cz c d then [d] else []) ++ bY c n (d + 1)
theorem f8 (c : Cal) : ∀ (k : Nat) (d : Int), bY c (k + 1) d = bY c k d ++ if cz c (d + k) then [d + k] else []
 | 0, d => by simp [bY]
 | k + 1, d => by
  have ih := f8 c k (d + 1)
  rw [bY, ih, bY, List.append_assoc]
  rw [show d + 1 + (k : Int) = d + ((k + 1 : Nat) : Int) by omega]
theorem jm (c : Cal) : ∀ (k : Nat) (d : Int), (bY c k d).length <= k
 | 0, _ => aH _
 | k + 1, d => by
  have := jm c k (d + 1)
  rw [bY, List.length_append]
  split <;> simp <;> omega
theorem gN (c : Cal) : ∀ (k m : Nat) (d : Int), bY c (k + m) d = bY c k d ++ bY c m (d + k)
 | 0, m, d => by simp [bY]
 | k + 1, m, d => by
  have ih := gN c k m (d + 1)
  rw [show k + 1 + m = (k + m) + 1 by omega, bY, ih, bY, List.append_assoc]
  rw [show d + 1 + (k : Int) = d + ((k + 1 : Nat) : Int) by omega]
structure Wd (w : World) (c : Cal) (P Q B1 B2 B3 : Nat) (first m : Int) : Prop where
 wk : Wk w c P Q
 b1 : w.cell? (aV B1 0) = some (iV first)
 b2 : w.cell? (aV B2 0) = some (iV m)
 b3 : w.cell? (aV B3 0) = some (.func (.func 193) #[] #[.pointer (some (aV P 0)), .pointer (some (aV Q 0))])
def wdB (c : Cal) (P Q B1 B2 B3 : Nat) : List Nat := P :: Q :: B1 :: B2 :: B3 :: if c.hol = [] then [] else (c.hA.map (·.block)).toList
def ov (B : List Nat) (W W' : World) : Prop := xc B W W' /\ W.heap.size <= W'.heap.size
theorem Wd.keep {w w' : World} {c : Cal} {P Q B1 B2 B3 : Nat} {first m : Int} (h : Wd w c P Q B1 B2 B3 first m) (hk : ov (wdB c P Q B1 B2 B3) w w') : Wd w' c P Q B1 B2 B3 first m := by
 have hp : ∀ {b o v}, b ∈ wdB c P Q B1 B2 B3 -> w.cell? (aV b o) = some v -> w'.cell? (aV b o) = some v := fun {b o v} hb hv => (World.cell?_of_block (a := (aV b o)) (hk.1 b hb)).trans hv
 have hr : Rd w' c.hA (c.hol.map iV) := by
  rcases h.wk.rd with h0 | ⟨b, off, hA, hb, hc⟩
  ·exact .inl h0
  ·by_cases h0 : c.hol = []
   ·exact .inl (by rw [h0]; rfl)
   ·exact h.wk.rd.same hk.2 (fun a ha _ => hk.1 a.block (by simp [wdB, ha, h0]))
 exact ⟨⟨fun i hi => hp (by simp [wdB]) (h.wk.week i hi), hp (by simp [wdB]) h.wk.hol, hr, h.wk.lens⟩, hp (by simp [wdB]) h.b1, hp (by simp [wdB]) h.b2, hp (by simp [wdB]) h.b3⟩
theorem qS {w : World} {c : Cal} {P Q B1 B2 B3 : Nat} {first m : Int} (h : Wd w c P Q B1 B2 B3 first m) : ∀ b ∈ wdB c P Q B1 B2 B3, b < w.heap.size := by
 intro b hb
 simp only [wdB, List.mem_cons] at hb
 rcases hb with rfl | rfl | rfl | rfl | rfl | hb
 ·exact h.wk.ltP
 ·exact h.wk.ltQ
 ·exact aM w _ h.b1
 ·exact aM w _ h.b2
 ·exact aM w _ h.b3
 ·by_cases h0 : c.hol = []
  ·rw [if_pos h0] at hb; cases hb
  ·rw [if_neg h0] at hb
   rcases h.wk.rd with h1 | ⟨b', off, hA, hb', hc⟩
   ·exact absurd (List.map_eq_nil_iff.1 h1) h0
   ·rw [hA] at hb
    simp at hb
    subst hb
    exact hb'
theorem oI {B : List Nat} {X Y Z : World} (h : ov B X Y) (k : ov B Y Z) : ov B X Z := ⟨h.1.trans k.1, aG h.2 k.2⟩
theorem oJ {B : List Nat} {w : World} (hB : ∀ b ∈ B, b < w.heap.size) (W : World) (l : Nat) (o o' : Obj) (hl : w.heap.size <= l) (_ : W.heap[l]? = some o) (_ : o.isCells = false) (_ : o.isWalk = false) : ov B W (W.putObj l o') :=
 ⟨fun b hb => World.putObj_heap_other (by have := hB b hb; omega), by rw [World.putObj_size]; exact aH _⟩
theorem jQ (c : Cal) : ∀ (n : Nat) (d : Int), (∀ x t, bY c n d = x :: t -> dL c n d = some x) /\ (bY c n d = [] -> dL c n d = none)
 | 0, d => ⟨fun x t h => (by cases h), fun _ => rfl⟩
 | n + 1, d => by
  have ih := jQ c n (d + 1)
  simp only [bY, dL]
  by_cases hw : cz c d = true
  ·rw [if_pos hw, if_pos hw]
   exact ⟨fun x t h => by simp at h; rw [h.1], fun h => by simp at h⟩
  ·rw [if_neg hw, if_neg hw]
   simpa using ih
theorem Wd.below {w w' : World} {c : Cal} {P Q B1 B2 B3 : Nat} {first m : Int} (h : Wd w c P Q B1 B2 B3 first m) (hb : Below w.heap.size w w') : Wd w' c P Q B1 B2 B3 first m :=
 ⟨h.wk.below hb, (hb.cell (p := (aV B1 0)) (aM w _ h.b1)).trans h.b1, (hb.cell (p := (aV B2 0)) (aM w _ h.b2)).trans h.b2, (hb.cell (p := (aV B3 0)) (aM w _ h.b3)).trans h.b3⟩
abbrev rZ (c : Cal) := { x : Int // cz c x = true /\ I64 x }
def jF {c : Cal} (xs : List (rZ c)) : List Int := xs.map (·.1)
theorem mc {c : Cal} (xs : List (rZ c)) (x : rZ c) : jF (xs ++ [x]) = jF xs ++ [x.1] := by simp [jF]
def DaysAll (c : Cal) (first : Int) (n : Nat) (xs : List (rZ c)) : Prop := jF xs = bY c n first
def qL (c : Cal) (first : Int) (n : Nat) (pre : List (rZ c)) : Prop := ∃ x pre' t, pre = pre' ++ [x] /\ bY c n first = jF pre ++ t
theorem jY (c : Cal) (P Q B1 B2 B3 : Nat) (first m : Int) (w : World) (hw : Wd w c P Q B1 B2 B3 first m) (hup : upB c.hol = true) (hf1 : -3000000 <= first) (hf2 : first <= 3000000) (hm1 : -3000000 <= m) (hm2 : m <= 3000000) :
  SeqStopsK Fence.wide 8 Tryz.prog 179 #[.pointer (some (aV B1 0)), .pointer (some (aV B2 0)), .pointer (some (aV B3 0))] (fun x : rZ c => #[iV x.1]) (ov (wdB c P Q B1 B2 B3)) (DaysAll c first m.toNat) (qL c first m.toNat) m.toNat w := by
 intro l J Jx W hW hJ hJx hY hJ0
 have HW0 := aB (hw.below hW)
 have HJ := aB hJ; clear hJ
 have HJx := aB hJx; clear hJx
 have HY := aB hY; clear hY
 clear hw hW
 have e1 := HW0.out.b1
 refine callsIn_of_wp Tryz.func179 rfl trivial ?_ rfl
 simp only [Tryz.ntmps179, List.size_toArray, List.length_cons, List.length_nil, Nat.reduceAdd, Nat.reduceSub, Array.replicate_succ, Array.replicate_zero, List.push_toArray, List.append_toArray, List.nil_append, List.cons_append]
 gi_wp2
 clear e1
 gi_loopw [5] (fun i wr => ∃ (k : Nat) (pre : List (rZ c)), k <= m.toNat /\ i = iV (first + k) /\ J pre wr /\ Wd wr c P Q B1 B2 B3 first m /\ jF pre = bY c k first) (fun i _ => (first + m - intOf i).toNat)
 case atStart => exact ⟨0, [], Nat.zero_le _, by go_num, hJ0, HW0.out, rfl⟩
 case round =>
  obtain ⟨k, pre, hk, rfl, hj, hS, hv⟩ := hrel
  have HS := aB hS; clear hS
  have HJK := aB hj; clear hj
  have HV := aB hv; clear hv
  have c1 := HS.out.b1
  have c2 := HS.out.b2
  have c3 := HS.out.b3
  by_cases hlt : (k : Int) < m
  ·have g1 : first + (k : Int) < first + m := by omega
   have hd : I64 (first + k) := ⟨by omega, by omega⟩
   have HD := aB hd; clear hd
   have hsn := f8 c k first
   cases hwk : cz c (first + k) with
   | false =>
    rw [hwk] at hsn
    have HSN := aB hsn; clear hsn
    have HWK := aB hwk; clear hwk
    gi_wp2_with (refine ⟨trivial, ?_⟩; gi_at_call 193; refine (callsIn_wide.2 (kM c P Q (first + k) _ HS.out.wk hup HD.out)).mono ?_; rintro e w1 ⟨rfl, hb⟩; rw [HWK.out]; clear c1 c2 c3)
    refine ⟨fun _ h => (by cases h), ?_⟩
    gi_wp2
    exact ⟨⟨k + 1, pre, by omega, by go_num, HJ.out pre wr w1 none HJK.out (cT hb none) (fun r e => by cases e), HS.out.below hb, by rw [HV.out, HSN.out]; simp⟩, by simp [intOf]; omega⟩
   | true =>
    rw [hwk] at hsn
    have HSN := aB hsn; clear hsn
    have HWK := aB hwk; clear hwk
    have hlen : pre.length < m.toNat := by
     have h1 := congrArg List.length HV.out
     have h2 := jm c k first
     simp [jF] at h1
     omega
    have HLEN := aB hlen; clear hlen
    have hpart : Hid (qL c first m.toNat (pre ++ [⟨first + k, HWK.out, HD.out⟩])) := by
     refine ⟨_, pre, bY c (m.toNat - (k + 1)) (first + ((k + 1 : Nat) : Int)), rfl, ?_⟩
     rw [mc, HV.out]
     have h1 := gN c (k + 1) (m.toNat - (k + 1)) first
     rw [show k + 1 + (m.toNat - (k + 1)) = m.toNat by omega, HSN.out] at h1
     simpa using h1
    gi_wp2_with (refine ⟨trivial, ?_⟩; gi_at_call 193; refine (callsIn_wide.2 (kM c P Q (first + k) _ HS.out.wk hup HD.out)).mono ?_; rintro e w1 ⟨rfl, hb⟩; rw [HWK.out]; clear c1 c2 c3)
    obtain ⟨fn, tmps, assign, body, hy, hR⟩ := HY.out pre ⟨first + k, HWK.out, HD.out⟩ w1 (HJ.out pre wr w1 none HJK.out (cT hb none) (fun r e => by cases e)) HLEN.out
    have HS1 := aB (HS.out.below hb)
    clear HS HJK hb
    dsimp only at hy
    rw [hy]
    gi_wp2
    refine hR.mono ?_
    clear hy hR
    rintro e W3 (⟨rfl, hj3, hk3⟩ | ⟨rfl, hx3⟩)
    ·have HS3 := aB (HS1.out.keep hk3)
     have HJ3 := aB hj3
     clear hj3 hk3 HS1
     gi_wp2
     exact ⟨⟨k + 1, _, by omega, by go_num, HJ3.out, HS3.out, by rw [mc, HV.out, HSN.out]; simp⟩, by simp [intOf]; omega⟩
    ·have HX3 := aB hx3
     clear hx3
     gi_wp2
     refine bodyPost_ret (results_none rfl _ _ _) rfl ?_
     exact ⟨⟨_, rfl⟩, .inr ⟨_, hpart.out, HX3.out⟩⟩
  ·obtain hkm : k = m.toNat := by omega
   have g1 : ¬ first + (k : Int) < first + m := by omega
   have HKM := aB hkm; clear hkm
   gi_wp2
   go_end0
   exact ⟨⟨_, rfl⟩, .inl ⟨pre, HV.out.trans (by rw [HKM.out]), HJK.out⟩⟩
def WdR (c : Cal) (first m : Int) (w : World) (e : Ending) (w' : World) : Prop :=
 ∃ P Q B1 B2 B3, e = .returned (.func (.func 179) #[] #[.pointer (some (aV B1 0)), .pointer (some (aV B2 0)), .pointer (some (aV B3 0))]) /\ Wd w' c P Q B1 B2 B3 first m /\ Below w.heap.size w w' /\ ∀ b ∈ [P, Q, B1, B2, B3], w.heap.size <= b
theorem jP (c : Cal) (first m : Int) (w : World) (hc : cP w c) (hv : du c = true) :
  Calls Tryz.prog 141 #[eI c, iV first, iV m] w (WdR c first m w) := by
 have HV := aB (cV hv)
 have HC := aB hc
 have HX : Hid ((((w.alloc (.cells #[iV c.zone, .slice c.wA c.week.length c.wc, .slice c.hA c.hol.length c.hc] 110)).alloc (.cells #[iV first] 3)).alloc (.cells #[iV m] 3)).heap[w.heap.size]? = some (.cells #[iV c.zone, .slice c.wA c.week.length c.wc, .slice c.hA c.hol.length c.hc] 110)) := (aK _ _ _ (by simp; omega)).trans ((aK _ _ _ (by simp)).trans (aC _ _))
 have HB1 : Hid ((((w.alloc (.cells #[iV c.zone, .slice c.wA c.week.length c.wc, .slice c.hA c.hol.length c.hc] 110)).alloc (.cells #[iV first] 3)).alloc (.cells #[iV m] 3)).heap[w.heap.size + 1]? = some (.cells #[iV first] 3 (0, 0))) := by
  refine (aK _ _ _ (by simp)).trans ?_
  have := aC (w.alloc (.cells #[iV c.zone, .slice c.wA c.week.length c.wc, .slice c.hA c.hol.length c.hc] 110)) (.cells #[iV first] 3)
  rwa [aT] at this
 have HB2 : Hid ((((w.alloc (.cells #[iV c.zone, .slice c.wA c.week.length c.wc, .slice c.hA c.hol.length c.hc] 110)).alloc (.cells #[iV first] 3)).alloc (.cells #[iV m] 3)).heap[w.heap.size + 1 + 1]? = some (.cells #[iV m] 3 (0, 0))) := by
  have := aC ((w.alloc (.cells #[iV c.zone, .slice c.wA c.week.length c.wc, .slice c.hA c.hol.length c.hc] 110)).alloc (.cells #[iV first] 3)) (.cells #[iV m] 3)
  rwa [aT, aT] at this
 have HB0 : Hid (Below w.heap.size w (((w.alloc (.cells #[iV c.zone, .slice c.wA c.week.length c.wc, .slice c.hA c.hol.length c.hc] 110)).alloc (.cells #[iV first] 3)).alloc (.cells #[iV m] 3))) := (((aJ _ w).alloc (aH _) _).alloc (by simp) _).alloc (by simp; omega) _
 clear hv hc
 go_enter Tryz.func141, Tryz.ntmps141
 go_upto_region 1 with fail
 change Code.wp _ _ _ _ (((w.alloc (.cells #[iV c.zone, .slice c.wA c.week.length c.wc, .slice c.hA c.hol.length c.hc] 110)).alloc (.cells #[iV first] 3)).alloc (.cells #[iV m] 3))
 generalize (((w.alloc (.cells #[iV c.zone, .slice c.wA c.week.length c.wc, .slice c.hA c.hol.length c.hc] 110)).alloc (.cells #[iV first] 3)).alloc (.cells #[iV m] 3)) = W0 at *
 have k0 : W0.cell? (aV w.heap.size 0) = some (iV c.zone) := aA 0 HX.out
 have k1 : W0.cell? (aV w.heap.size 1) = some (.slice c.wA c.week.length c.wc) := aA 1 HX.out
 have k2 : W0.cell? (aV w.heap.size 2) = some (.slice c.hA c.hol.length c.hc) := aA 2 HX.out
 go_wp2_with fail
 refine (lZ c _ (HC.out.below HB0.out) HV.out.2.2.1 (by have := HV.out.2.2.2.1; omega)).mono ?_
 rintro e w1 ⟨P, Q, rfl, hwk, hfP, hfQ, hb⟩
 have hsz := hb.size
 have hz0 := HB0.out.size
 have HW1 := aB hwk
 have HBB := aB (HB0.out.trans (hb.mono HB0.out.size))
 have H1 := aB ((hb.block _ (aa HB1.out)).trans HB1.out)
 have H2 := aB ((hb.block _ (aa HB2.out)).trans HB2.out)
 clear hwk hb k0 k1 k2
 go_wp2
 go_ret
 have hb5 := ba w1 (.cells #[.func (.func 193) #[] #[.pointer (some (aV P 0)), .pointer (some (aV Q 0))]] 99)
 refine ⟨P, Q, w.heap.size + 1, w.heap.size + 1 + 1, w1.heap.size, rfl, ⟨HW1.out.below hb5, ?_, ?_, ?_⟩, HBB.out.trans (hb5.mono HBB.out.size), ?_⟩
 ·exact aA 0 (bF (w := w) H1.out hb5)
 ·exact aA 0 (bF (w := w) H2.out hb5)
 ·exact aA 0 (aC _ _)
 ·intro b hb
  simp only [List.mem_cons, List.not_mem_nil, or_false] at hb
  rcases hb with rfl | rfl | rfl | rfl | rfl <;> omega
theorem sk {w W : World} {u v x y : Int} (hc4 : W.cell? (aV (w.heap.size + 1) 0) = some (iV x)) (_hf4 : W.frozen? (aV (w.heap.size + 1) 0) = false) (hc5 : W.cell? (aV (w.heap.size + 1 + 1) 0) = some (iV y)) (_hf5 : W.frozen? (aV (w.heap.size + 1 + 1) 0) = false) (hb : Below w.heap.size w W) :
  ((W.setCell (aV (w.heap.size + 1) 0) (iV u)).setCell (aV (w.heap.size + 1 + 1) 0) (iV v)).cell? (aV (w.heap.size + 1) 0) = some (iV u) /\ ((W.setCell (aV (w.heap.size + 1) 0) (iV u)).setCell (aV (w.heap.size + 1 + 1) 0) (iV v)).cell? (aV (w.heap.size + 1 + 1) 0) = some (iV v) /\ Below w.heap.size w ((W.setCell (aV (w.heap.size + 1) 0) (iV u)).setCell (aV (w.heap.size + 1 + 1) 0) (iV v)) := by
 have h1 : (W.setCell (aV (w.heap.size + 1) 0) (iV u)).cell? (aV (w.heap.size + 1) 0) = some (iV u) := World.cell?_setCell_same' _ _ _ (by rw [hc4]; rfl)
 have h2 : (W.setCell (aV (w.heap.size + 1) 0) (iV u)).cell? (aV (w.heap.size + 1 + 1) 0) = some (iV y) := by rw [World.cell?_setCell_other _ _ _ _ (by simp)]; exact hc5
 refine ⟨?_, World.cell?_setCell_same' _ _ _ (by rw [h2]; rfl), (hb.setCell (p := (aV (w.heap.size + 1) 0)) (by simp) _).setCell (p := (aV (w.heap.size + 1 + 1) 0)) (by simp; omega) _⟩
 rw [World.cell?_setCell_other _ _ _ _ (by simp)]
 exact h1
theorem pU (c : Cal) (d : Int) (w : World) (hc : cP w c) (hv : du c = true) (hd : dr d = true) :
  Calls Tryz.prog 135 #[eI c, iV d] w fun e w' => e = .returned (.tuple #[iV (gj c d).1, iV (gj c d).2]) /\ Below w.heap.size w w' := by
 have HV := aB hv
 have HZ := aB (cV hv)
 have HDR := aB hd
 have hd' := hd
 unfold dr at hd'
 simp only [Bool.and_eq_true, decide_eq_true_eq] at hd'
 obtain ⟨d1, d2⟩ := hd'
 clear hv hd
 have HC := aB hc
 have HX : Hid ((((w.alloc (.cells #[iV c.zone, .slice c.wA c.week.length c.wc, .slice c.hA c.hol.length c.hc] 110)).alloc (.cells #[iV 0] 3)).alloc (.cells #[iV 0] 38)).heap[w.heap.size]? = some (.cells #[iV c.zone, .slice c.wA c.week.length c.wc, .slice c.hA c.hol.length c.hc] 110)) := (aK _ _ _ (by simp; omega)).trans ((aK _ _ _ (by simp)).trans (aC _ _))
 have H1 : Hid ((((w.alloc (.cells #[iV c.zone, .slice c.wA c.week.length c.wc, .slice c.hA c.hol.length c.hc] 110)).alloc (.cells #[iV 0] 3)).alloc (.cells #[iV 0] 38)).heap[w.heap.size + 1]? = some (.cells #[iV 0] 3 (0, 0))) := by
  refine (aK _ _ _ (by simp)).trans ?_
  have := aC (w.alloc (.cells #[iV c.zone, .slice c.wA c.week.length c.wc, .slice c.hA c.hol.length c.hc] 110)) (.cells #[iV 0] 3)
  rwa [aT] at this
 have H2 : Hid ((((w.alloc (.cells #[iV c.zone, .slice c.wA c.week.length c.wc, .slice c.hA c.hol.length c.hc] 110)).alloc (.cells #[iV 0] 3)).alloc (.cells #[iV 0] 38)).heap[w.heap.size + 1 + 1]? = some (.cells #[iV 0] 38 (0, 0))) := by
  have := aC ((w.alloc (.cells #[iV c.zone, .slice c.wA c.week.length c.wc, .slice c.hA c.hol.length c.hc] 110)).alloc (.cells #[iV 0] 3)) (.cells #[iV 0] 38)
  rwa [aT, aT] at this
 have HB0 : Hid (Below w.heap.size w (((w.alloc (.cells #[iV c.zone, .slice c.wA c.week.length c.wc, .slice c.hA c.hol.length c.hc] 110)).alloc (.cells #[iV 0] 3)).alloc (.cells #[iV 0] 38))) := (((aJ _ w).alloc (aH _) _).alloc (by simp) _).alloc (by simp; omega) _
 clear hc
 refine eT Tryz.func135 rfl ?_
 simp only [Tryz.ntmps135, List.size_toArray, List.length_cons, List.length_nil, Nat.reduceAdd, Nat.reduceSub, Array.replicate_succ, Array.replicate_zero, List.push_toArray, List.append_toArray, List.nil_append, List.cons_append]
 go_upto_region 1 with fail
 change Code.wp _ _ _ _ (((w.alloc (.cells #[iV c.zone, .slice c.wA c.week.length c.wc, .slice c.hA c.hol.length c.hc] 110)).alloc (.cells #[iV 0] 3)).alloc (.cells #[iV 0] 38))
 generalize (((w.alloc (.cells #[iV c.zone, .slice c.wA c.week.length c.wc, .slice c.hA c.hol.length c.hc] 110)).alloc (.cells #[iV 0] 3)).alloc (.cells #[iV 0] 38)) = W0 at *
 have k0 : W0.cell? (aV w.heap.size 0) = some (iV c.zone) := aA 0 HX.out
 have k1 : W0.cell? (aV w.heap.size 1) = some (.slice c.wA c.week.length c.wc) := aA 1 HX.out
 have k2 : W0.cell? (aV w.heap.size 2) = some (.slice c.hA c.hol.length c.hc) := aA 2 HX.out
 go_wp2_with fail
 refine (dU c _ (HC.out.below HB0.out)).mono ?_
 rintro e w1 ⟨rfl, hb⟩
 rw [HV.out]
 have HX1 := aB (bF (w := w) HX.out hb)
 have H11 := aB (bF (w := w) H1.out hb)
 have H21 := aB (bF (w := w) H2.out hb)
 have HB1 := aB (HB0.out.trans (hb.mono HB0.out.size))
 clear hb HX HB0 H1 H2 k0 k1 k2
 have k0 : w1.cell? (aV w.heap.size 0) = some (iV c.zone) := aA 0 HX1.out
 have k1 : w1.cell? (aV w.heap.size 1) = some (.slice c.wA c.week.length c.wc) := aA 1 HX1.out
 have k2 : w1.cell? (aV w.heap.size 2) = some (.slice c.hA c.hol.length c.hc) := aA 2 HX1.out
 go_wp2_with fail
 refine (fh d _).mono ?_
 rintro e w2 ⟨rfl, rfl⟩
 rw [HDR.out]
 go_wp2_with fail
 refine (jP c d 60 _ (HC.out.below HB1.out) HV.out).mono ?_
 rintro e w2 ⟨P, Q, B1, B2, B3, rfl, hwd, hb, -⟩
 have HWD := aB hwd
 have H12 := aB (bF (w := w) H11.out hb)
 have H22 := aB (bF (w := w) H21.out hb)
 have HB2 := aB (bt HB1.out hb)
 clear hwd hb H11 H21 HB1 HX1 k0 k1 k2
 go_wp2_with fail
 have hz2 : w.heap.size <= w2.heap.size := HB2.out.size
 have HWN := aB (jQ c 60 d)
 refine (wpIn_wide (n := 9)).1 (wpIn_rangeFunc_ownF (F := Fence.wide) (n := 9) rfl (by omega) (gf := 179) (lb := #[.pointer (some (aV B1 0)), .pointer (some (aV B2 0)), .pointer (some (aV B3 0))]) rfl trivial (enters_of Tryz.func179 (by kernel_rfl) rfl)
  (jY c P Q B1 B2 B3 d 60 w2 HWD.out HZ.out.2.2.2.2 (by omega) (by omega) (by omega) (by omega)) oI (oJ (qS HWD.out)) (aJ _ _) (fun _ => rfl)
  (fun pre W => pre = [] /\ W.cell? (aV (w.heap.size + 1) 0) = some (iV 0) /\ W.frozen? (aV (w.heap.size + 1) 0) = false /\ W.cell? (aV (w.heap.size + 1 + 1) 0) = some (iV 0) /\ W.frozen? (aV (w.heap.size + 1 + 1) 0) = false /\ Below w.heap.size w W)
  (fun cd pre W => cd = .ret /\ (∃ x, pre = [x] /\ W.cell? (aV (w.heap.size + 1) 0) = some (iV x.1)) /\ W.cell? (aV (w.heap.size + 1 + 1) 0) = some (iV 0) /\ Below w.heap.size w W)
  (fun s A B row hs hg hr => ⟨hs.1, cell_kept hs.2.1 hg (fun r e => (hr r e).2), (frozen_kept hs.2.1 hg (fun r e => (hr r e).2)).trans hs.2.2.1, cell_kept hs.2.2.2.1 hg (fun r e => (hr r e).2), (frozen_kept hs.2.2.2.1 hg (fun r e => (hr r e).2)).trans hs.2.2.2.2.1, hs.2.2.2.2.2.grown hg hs.2.2.2.2.2.size (fun k e => aG hz2 (hr k e).1)⟩)
  (fun cd s A B row hs hg hr => ⟨hs.1, (by obtain ⟨x, h1, h2⟩ := hs.2.1; exact ⟨x, h1, cell_kept h2 hg (fun r e => (hr r e).2)⟩), cell_kept hs.2.2.1 hg (fun r e => (hr r e).2), hs.2.2.2.grown hg hs.2.2.2.size (fun k e => aG hz2 (hr k e).1)⟩)
  ⟨rfl, aA 0 H12.out, ac H12.out 0, aA 0 H22.out, ac H22.out 0, HB2.out⟩
  (fun x => { tmps := #[eI c, iV d, .pointer (some (aV w.heap.size 0)), undef, .pointer (some (aV (w.heap.size + 1) 0)), .pointer (some (aV (w.heap.size + 1 + 1) 0)), iV x.1, .agg #[iV c.zone, .slice c.wA c.week.length c.wc, .slice c.hA c.hol.length c.hc], .bool true, .bool false, .bool false, iV d, .bool true, .bool false, .bool false, .agg #[iV c.zone, .slice c.wA c.week.length c.wc, .slice c.hA c.hol.length c.hc], iV d, .func (.func 179) #[] #[.pointer (some (aV B1 0)), .pointer (some (aV B2 0)), .pointer (some (aV B3 0))], iV x.1, undef], defers := [] }) ?assign ?body ?done ?stop)
 case assign =>
  intro l x W K hK
  gi_wp2
  exact hK
 case body =>
  rintro l pre x W ⟨rfl, hc4, hf4, hc5, hf5, hb⟩ _
  have HB := aB hb; clear hb
  gi_wp2
  have hs := sk (u := x.1) (v := 0) hc4 hf4 hc5 hf5 HB.out
  exact ⟨(KeepsOthers.setCell _ _ _).trans (KeepsOthers.setCell _ _ _), rfl, ⟨x, rfl, hs.1⟩, hs.2.1, hs.2.2⟩
 case done =>
  rintro D xs W hD hS ⟨rfl, hc4, hf4, hc5, hf5, hb⟩ hK
  have HB := aB hb; clear hb
  have HN : Hid (gj c d = (0, 20)) := by
   show _ = _
   unfold gj
   rw [HWN.out.2 hS.symm]
  have HD := aB hK
  clear hS hK
  go_wp2
  have hs := sk (u := 0) (v := 20) hc4 hf4 hc5 hf5 HB.out
  have hK' := ((KeepsOthers.setCell W (aV (w.heap.size + 1) 0) (.int .i64 0)).trans (KeepsOthers.setCell _ (aV (w.heap.size + 1 + 1) 0) (.int .i64 20))).same D _ HD.out rfl
  refine ⟨by simp, .inl ⟨_, _, rfl, run_takeDeferred hK', ?_⟩⟩
  have k4 := cell_kept hs.1 (grownBy_putObj' _ D (.deferred none)) (fun r e => by cases e; exact ⟨_, hK', rfl⟩)
  have k5 := cell_kept hs.2.1 (grownBy_putObj' _ D (.deferred none)) (fun r e => by cases e; exact ⟨_, hK', rfl⟩)
  refine ⟨.tuple #[iV 0, iV 20], by simp [results, Tryz.results135, go_sem, k4, k5], ?_, hs.2.2.grown (grownBy_putObj' _ D (.deferred none)) hs.2.2.size (fun k e => by cases e; omega)⟩
  rw [HN.out]
 case stop =>
  rintro D cd pre W hD hS ⟨rfl, ⟨x, rfl, hc4⟩, hc5, hb⟩ hK
  have HN : Hid (gj c d = (x.1, 0)) := by
   show _ = _
   obtain ⟨y, p', t, he, ht⟩ := hS
   unfold gj
   rw [HWN.out.1 x.1 t (by simpa [jF] using ht)]
  have HB := aB hb; clear hb
  have HD := aB hK
  clear hS hK
  gi_wp2
  refine ⟨by simp, .inl ⟨_, _, rfl, run_takeDeferred HD.out, ?_⟩⟩
  have k4 := cell_kept hc4 (grownBy_putObj' _ D (.deferred none)) (fun r e => by cases e; exact ⟨_, HD.out, rfl⟩)
  have k5 := cell_kept hc5 (grownBy_putObj' _ D (.deferred none)) (fun r e => by cases e; exact ⟨_, HD.out, rfl⟩)
  refine ⟨.tuple #[iV x.1, iV 0], by simp [results, Tryz.results135, go_sem, k4, k5], ?_, HB.out.grown (grownBy_putObj' _ D (.deferred none)) HB.out.size (fun k e => by cases e; omega)⟩
  rw [HN.out]
end
theorem mw {c : Cal} {d x : Int} (h : gj c d = (x, 0)) : d <= x /\ x < d + 60 /\ cz c x = true /\ ∀ y, d <= y -> y < x -> cz c y = false := by
 unfold gj at h
 cases hn : dL c 60 d with
 | none => rw [hn] at h; cases h
 | some y =>
  rw [hn] at h
  cases h
  exact dK hn
theorem iU (c : Cal) (d : Int) : (∃ x, gj c d = (x, 0)) ∨ gj c d = (0, 20) := by
 unfold gj
 cases dL c 60 d with
 | none => exact .inr rfl
 | some y => exact .inl ⟨y, rfl⟩
def bm (c : Cal) (m t : Int) : Int := if m < fN c t then bc c t + 1 else bc c t
theorem nK (c : Cal) (m t : Int) : ak c m t = if (gj c (bm c m t)).2 = 0 then (be c (gj c (bm c m t)).1 m, 0) else (0, (gj c (bm c m t)).2) := by
 unfold ak bm gj
 cases dL c 60 (if m < fN c t then bc c t + 1 else bc c t) <;> rfl
theorem hO (c : Cal) (m t : Int) (w : World) (hc : cP w c) (hv : du c = true) (hm1 : 0 <= m) (hm2 : m < 1440) (ht1 : -100000000 <= t) (ht2 : t <= 100000000) :
  Calls Tryz.prog 67 #[eI c, iV m, iV t] w fun e w' => e = .returned (.tuple #[iV (ak c m t).1, iV (ak c m t).2]) /\ Below w.heap.size w w' := by
 obtain ⟨z1, z2, -⟩ := cV hv
 have HV := aB hv; clear hv
 have HC := aB hc; clear hc
 have hday1 : -80000 <= bc c t := by unfold bc; omega
 have hday2 : bc c t <= 80000 := by unfold bc; omega
 have hmin1 : 0 <= fN c t := by unfold fN; omega
 have hmin2 : fN c t < 1440 := by unfold fN; omega
 have HX : Hid ((w.alloc (.cells #[iV c.zone, .slice c.wA c.week.length c.wc, .slice c.hA c.hol.length c.hc] 110)).heap[w.heap.size]? = some (.cells #[iV c.zone, .slice c.wA c.week.length c.wc, .slice c.hA c.hol.length c.hc] 110)) := aC _ _
 have HB0 := aB (ba w (.cells #[iV c.zone, .slice c.wA c.week.length c.wc, .slice c.hA c.hol.length c.hc] 110))
 have HFE := aB (nK c m t)
 have HFD : Hid (bm c m t = if m < fN c t then bc c t + 1 else bc c t) := rfl
 generalize hdd : bc c t = dd at *
 generalize hmm : fN c t = mm at *
 have HDD := aB hdd; have HMM := aB hmm; clear hdd hmm
 go_enter Tryz.func67, Tryz.ntmps67
 go_wp2_with fail
 refine (gV c t _ (HC.out.below HB0.out) HV.out (by omega) (by omega)).mono ?_
 rintro e w1 ⟨rfl, hb⟩
 rw [HDD.out, HMM.out]
 have HX1 := aB (bF (w := w) HX.out hb)
 have HB1 := aB (HB0.out.trans (hb.mono HB0.out.size))
 clear hb HX HB0
 have k0 : w1.cell? (aV w.heap.size 0) = some (iV c.zone) := aA 0 HX1.out
 have k1 : w1.cell? (aV w.heap.size 1) = some (.slice c.wA c.week.length c.wc) := aA 1 HX1.out
 have k2 : w1.cell? (aV w.heap.size 2) = some (.slice c.hA c.hol.length c.hc) := aA 2 HX1.out
 have main : ∀ D : Int, bm c m t = D -> -80000 <= D -> D <= 80001 -> Hid (bm c m t = D /\ dr D = true) := fun D h1 h2 h3 => ⟨h1, by unfold dr; simp; omega⟩
 have MAIN := aB main; clear main
 by_cases hlt : m < mm
 ·have HD := MAIN.out (dd + 1) (by rw [HFD.out, if_pos hlt]) (by omega) (by omega)
  go_wp2_with fail
  refine (pU c (dd + 1) _ (HC.out.below HB1.out) HV.out HD.out.2).mono ?_
  rintro e w2 ⟨rfl, hb⟩
  have HX2 := aB (bF (w := w) HX1.out hb)
  have HB2 := aB (bt HB1.out hb)
  clear hb HX1 HB1 k0 k1 k2
  have k0 : w2.cell? (aV w.heap.size 0) = some (iV c.zone) := aA 0 HX2.out
  have k1 : w2.cell? (aV w.heap.size 1) = some (.slice c.wA c.week.length c.wc) := aA 1 HX2.out
  have k2 : w2.cell? (aV w.heap.size 2) = some (.slice c.hA c.hol.length c.hc) := aA 2 HX2.out
  rcases iU c (dd + 1) with ⟨x, hx⟩ | hx
  ·have hin := mw hx
   have hR : Hid (ak c m t = (be c x m, 0)) := by show _ = _; rw [HFE.out, HD.out.1, hx]; rfl
   have hdx : Hid (dr x = true) := by show _ = _; unfold dr; simp; omega
   rw [hx]
   clear hx hin
   go_wp2_with fail
   refine (kb c x m _ (HC.out.below HB2.out) HV.out hdx.out hm1 hm2).mono ?_
   rintro e w3 ⟨rfl, hb⟩
   have HB3 := aB (bt HB2.out hb); clear hb
   go_wp2_with fail
   go_ret2
   rw [hR.out]
   exact ⟨rfl, HB3.out⟩
  ·have hR : Hid (ak c m t = (0, 20)) := by show _ = _; rw [HFE.out, HD.out.1, hx]; rfl
   rw [hx]
   clear hx
   go_wp2_with fail
   go_ret2
   rw [hR.out]
   exact ⟨rfl, HB2.out⟩
 ·have HD := MAIN.out dd (by rw [HFD.out, if_neg hlt]) (by omega) (by omega)
  go_wp2_with fail
  refine (pU c (dd) _ (HC.out.below HB1.out) HV.out HD.out.2).mono ?_
  rintro e w2 ⟨rfl, hb⟩
  have HX2 := aB (bF (w := w) HX1.out hb)
  have HB2 := aB (bt HB1.out hb)
  clear hb HX1 HB1 k0 k1 k2
  have k0 : w2.cell? (aV w.heap.size 0) = some (iV c.zone) := aA 0 HX2.out
  have k1 : w2.cell? (aV w.heap.size 1) = some (.slice c.wA c.week.length c.wc) := aA 1 HX2.out
  have k2 : w2.cell? (aV w.heap.size 2) = some (.slice c.hA c.hol.length c.hc) := aA 2 HX2.out
  rcases iU c (dd) with ⟨x, hx⟩ | hx
  ·have hin := mw hx
   have hR : Hid (ak c m t = (be c x m, 0)) := by show _ = _; rw [HFE.out, HD.out.1, hx]; rfl
   have hdx : Hid (dr x = true) := by show _ = _; unfold dr; simp; omega
   rw [hx]
   clear hx hin
   go_wp2_with fail
   refine (kb c x m _ (HC.out.below HB2.out) HV.out hdx.out hm1 hm2).mono ?_
   rintro e w3 ⟨rfl, hb⟩
   have HB3 := aB (bt HB2.out hb); clear hb
   go_wp2_with fail
   go_ret2
   rw [hR.out]
   exact ⟨rfl, HB3.out⟩
  ·have hR : Hid (ak c m t = (0, 20)) := by show _ = _; rw [HFE.out, HD.out.1, hx]; rfl
   rw [hx]
   clear hx
   go_wp2_with fail
   go_ret2
   rw [hR.out]
   exact ⟨rfl, HB2.out⟩
structure br (w : World) (N : Nat) (n : Net) : Prop where
 box : ∀ i v, (iW n)[i]? = some v -> w.cell? (aV N i) = some v
 net : bj w n
theorem jA {w : World} {N : Nat} {n : Net} (h : br w N n) : w.cell? (aV N 0) = some (.slice n.calA n.cals.length n.calC) ∧ w.cell? (aV N 1) = some (.slice n.namA n.names.length n.namC) ∧ w.cell? (aV N 2) = some (.slice n.opA n.ops.length n.opC) ∧ w.cell? (aV N 3) = some (.slice n.offA n.offs.length n.offC) ∧ w.cell? (aV N 4) = some (.slice n.linA n.lins.length n.linC) ∧ w.cell? (aV N 5) = some (.slice n.clsA n.clss.length n.clsC) := ⟨h.box 0 _ rfl, h.box 1 _ rfl, h.box 2 _ rfl, h.box 3 _ rfl, h.box 4 _ rfl, h.box 5 _ rfl⟩
theorem br.lt {w : World} {N : Nat} {n : Net} (h : br w N n) : N < w.heap.size := aM w _ (h.box 0 _ rfl)
theorem br.below {w w' : World} {N : Nat} {n : Net} (h : br w N n) (hb : Below w.heap.size w w') : br w' N n :=
 ⟨fun i v hv => (hb.cell (p := (aV N i)) h.lt).trans (h.box i v hv), h.net.below hb⟩
theorem br.drewN {w : World} {N : Nat} {n : Net} (h : br w N n) (k : Nat) : br (w.drewN k) N n := h.below (ai (aJ _ _) k)
theorem ay {α : Type} {f : α -> List Value} {k : Nat} (hk : ∀ x, (f x).length = k) {w : World} {A : Option Addr} {l : List α} (h : Rd w A (l.flatMap f)) {i : Nat} {x : α} (hi : l[i]? = some x) (hk0 : 0 < k) :
  i < l.length /\ ∃ b off, A = some (aV b off) /\ b < w.heap.size /\ (∀ v, (f x)[0]? = some v -> w.cell? (aV b (off + i * k)) = some v) /\ ∀ j v, (f x)[j]? = some v -> w.cell? (aV b (off + i * k + j)) = some v := by
 obtain ⟨hlt, rfl⟩ := aE.1 hi
 obtain ⟨b, off, hA, hb, hc⟩ := h.elem hk hlt hk0
 exact ⟨hlt, b, off, hA, hb, fun v hv => by have := hc 0 v hv; simpa using this, fun j v hv => by rw [Nat.add_assoc]; exact hc j v hv⟩
theorem eG (N : Nat) (n : Net) (o ci : Nat) (of : Off) (c : Cal) (w : World) (hN : br w N n) (h1 : n.offs[o]? = some of) (h2 : of.cal = (ci : Int)) (h3 : n.cals[ci]? = some c) :
  Calls Tryz.prog 68 #[.pointer (some (aV N 0)), iV o] w fun e w' => e = .returned (eI c) /\ Below w.heap.size w w' := by
 obtain ⟨ho, ob, oo, hoA, hob, -, hoc⟩ := ay cQ hN.net.offs h1 (by omega)
 obtain ⟨hc, cb, co, hcA, hcb, hc0, hcc⟩ := ay fp hN.net.cals h3 (by omega)
 have hZ := aC w (.cells #[iV 0, .slice none 0 0, .slice none 0 0] 110)
 have hb := ba w (.cells #[iV 0, .slice none 0 0, .slice none 0 0] 110)
 have HB := aB hb
 have n0 : (w.alloc (.cells #[iV 0, .slice none 0 0, .slice none 0 0] 110)).cell? (aV N 0) = some (.slice n.calA n.cals.length n.calC) := (hN.below hb).box 0 _ rfl
 have n3 : (w.alloc (.cells #[iV 0, .slice none 0 0, .slice none 0 0] 110)).cell? (aV N 3) = some (.slice n.offA n.offs.length n.offC) := (hN.below hb).box 3 _ rfl
 have o2 : (w.alloc (.cells #[iV 0, .slice none 0 0, .slice none 0 0] 110)).cell? (aV ob (oo + o * 7 + 2)) = some (iV of.cal) := (hb.cell (p := (aV ob _)) hob).trans (hoc 2 _ rfl)
 have c0 : (w.alloc (.cells #[iV 0, .slice none 0 0, .slice none 0 0] 110)).cell? (aV cb (co + ci * 3)) = some (iV c.zone) := (hb.cell (p := (aV cb _)) hcb).trans (hc0 _ rfl)
 have c1 : (w.alloc (.cells #[iV 0, .slice none 0 0, .slice none 0 0] 110)).cell? (aV cb (co + ci * 3 + 1)) = some (.slice c.wA c.week.length c.wc) := (hb.cell (p := (aV cb _)) hcb).trans (hcc 1 _ rfl)
 have c2 : (w.alloc (.cells #[iV 0, .slice none 0 0, .slice none 0 0] 110)).cell? (aV cb (co + ci * 3 + 2)) = some (.slice c.hA c.hol.length c.hc) := (hb.cell (p := (aV cb _)) hcb).trans (hcc 2 _ rfl)
 have z0 : (w.alloc (.cells #[iV 0, .slice none 0 0, .slice none 0 0] 110)).cell? (aV w.heap.size 0) = some (iV 0) := aA 0 hZ
 have z1 : (w.alloc (.cells #[iV 0, .slice none 0 0, .slice none 0 0] 110)).cell? (aV w.heap.size 1) = some (.slice none 0 0) := aA 1 hZ
 have z2 : (w.alloc (.cells #[iV 0, .slice none 0 0, .slice none 0 0] 110)).cell? (aV w.heap.size 2) = some (.slice none 0 0) := aA 2 hZ
 have y0 : (w.alloc (.cells #[iV 0, .slice none 0 0, .slice none 0 0] 110)).frozen? (aV w.heap.size 0) = false := ac hZ 0
 have y1 : (w.alloc (.cells #[iV 0, .slice none 0 0, .slice none 0 0] 110)).frozen? (aV w.heap.size 1) = false := ac hZ 1
 have y2 : (w.alloc (.cells #[iV 0, .slice none 0 0, .slice none 0 0] 110)).frozen? (aV w.heap.size 2) = false := ac hZ 2
 rw [h2] at o2
 rw [hoA] at n3
 rw [hcA] at n0
 have j1 : (0 : Int) <= (o : Int) := by omega
 have j2 : (o : Int) < (n.offs.length : Int) := by omega
 have j3 : (0 : Int) <= (ci : Int) := by omega
 have j4 : (ci : Int) < (n.cals.length : Int) := by omega
 clear hN hoc hc0 hcc hZ hb hob hcb h1 h2 h3 hoA hcA
 go_enter Tryz.func68, Tryz.ntmps68
 go_upto_region 1 with fail
 change Code.wp _ _ _ _ (w.alloc (.cells #[iV 0, .slice none 0 0, .slice none 0 0] 110))
 generalize (w.alloc (.cells #[iV 0, .slice none 0 0, .slice none 0 0] 110)) = W0 at *
 go_still_tail 14, (by kernel_rfl)
 go_wp2
 refine bodyPost_ret (v := eI c) (by simp [results, Tryz.results68, go_sem, z0, z1, z2]) rfl ⟨rfl, ?_⟩
 exact al (((HB.out.setCell (p := (aV w.heap.size 0)) (aH _) _).setCell (p := (aV w.heap.size 1)) (aH _) _).setCell (p := (aV w.heap.size 2)) (aH _) _)
theorem gU {p m : Int} (h1 : 1 <= p) (h2 : p <= 4) (h3 : 1 <= m) (h4 : m <= 240) : 0 <= p * m /\ p * m <= 960 := by
 rcases (by omega : p = 1 ∨ p = 2 ∨ p = 3 ∨ p = 4) with rfl | rfl | rfl | rfl <;> omega
def ax (of : Off) (t : Int) : Int := t + of.passes * of.minutes
theorem gR (N : Nat) (n : Net) (o : Nat) (of : Off) (t : Int) (w : World) (hN : br w N n) (h1 : n.offs[o]? = some of) (p1 : 1 <= of.passes) (p2 : of.passes <= 4) (m1 : 1 <= of.minutes) (m2 : of.minutes <= 240) (t1 : -100000000 <= t) (t2 : t <= 100000000) :
  Calls Tryz.prog 129 #[.pointer (some (aV N 0)), iV o, iV t] w fun e w' => e = .returned (iV (ax of t)) /\ Below w.heap.size w w' := by
 obtain ⟨ho, ob, oo, hoA, hob, -, hoc⟩ := ay cQ hN.net.offs h1 (by omega)
 have n3 : w.cell? (aV N 3) = some (.slice n.offA n.offs.length n.offC) := hN.box 3 _ rfl
 have o4 : w.cell? (aV ob (oo + o * 7 + 4)) = some (iV of.passes) := hoc 4 _ rfl
 have o5 : w.cell? (aV ob (oo + o * 7 + 5)) = some (iV of.minutes) := hoc 5 _ rfl
 rw [hoA] at n3
 have HR : Hid (ax of t = t + of.passes * of.minutes) := rfl
 obtain ⟨q1, q2⟩ := gU p1 p2 m1 m2
 generalize of.passes = p at *
 generalize of.minutes = m at *
 have r1 : IntKind.i64.wrap (p * m) = p * m := aO _ (by omega)
 have r2 : IntKind.i64.wrap (t + p * m) = t + p * m := aO _ (by omega)
 have j1 : (0 : Int) <= (o : Int) := by omega
 have j2 : (o : Int) < (n.offs.length : Int) := by omega
 clear hN hoc h1 hoA hob
 go_enter Tryz.func129, Tryz.ntmps129
 go_upto_region 1 with fail
 go_quiet (fail)
 clear r1 r2
 go_wp2
 go_ret
 exact ⟨iq HR.out.symm, ai (aJ w.heap.size w) _⟩
def tOk (t : Int) : Bool := decide (0 <= t) && decide (t <= 2000000)
theorem gp (t : Int) (w : World) : Calls Tryz.prog 56 #[iV t] w fun e w' => e = .returned (.bool (tOk t)) /\ w = w' := by
 by_cases h : 0 <= t
 ·have HR : Hid (tOk t = decide (t <= 2000000)) := by show _ = _; unfold tOk; simp [h]
  go_enter Tryz.func56, Tryz.ntmps56
  go_wp2
  go_ret
  exact ⟨ah HR.out.symm, rfl⟩
 ·have HR : Hid (tOk t = false) := by show _ = _; unfold tOk; simp [h]
  go_enter Tryz.func56, Tryz.ntmps56
  go_wp2
  go_ret
  exact ⟨ah HR.out.symm, rfl⟩
def aZ (c : Cal) (L : Lin) (t : Int) : Int × Int := if tOk t = true then ak c L.at_ t else (0, 1)
def cq (c : Cal) (of : Off) (K : Cls) (t : Int) : Int × Int := ak c K.deliver (ax of t)
theorem kE (N : Nat) (n : Net) (k o ci : Nat) (K : Cls) (of : Off) (c : Cal) (t : Int) (w : World) (hN : br w N n) (h0 : n.clss[k]? = some K) (h1 : n.offs[o]? = some of) (h2 : of.cal = (ci : Int)) (h3 : n.cals[ci]? = some c) (hv : du c = true) (a1 : 0 <= K.deliver) (a2 : K.deliver < 1440)
  (p1 : 1 <= of.passes) (p2 : of.passes <= 4) (m1 : 1 <= of.minutes) (m2 : of.minutes <= 240) (t1 : -90000000 <= t) (t2 : t <= 90000000) :
  Calls Tryz.prog 82 #[.pointer (some (aV N 0)), iV k, iV o, iV t] w fun e w' => e = .returned (.tuple #[iV (cq c of K t).1, iV (cq c of K t).2]) /\ Below w.heap.size w w' := by
 obtain ⟨hl, lb, lo, hlA, hlb, -, hlc⟩ := ay dh hN.net.clss h0 (by omega)
 have n4 : w.cell? (aV N 5) = some (.slice n.clsA n.clss.length n.clsC) := hN.box 5 _ rfl
 have l3 : w.cell? (aV lb (lo + k * 3 + 2)) = some (iV K.deliver) := hlc 2 _ rfl
 rw [hlA] at n4
 have HC := aB (hN.net.cal c (aF h3))
 have HN := aB hN
 have HH := aB (And.intro h1 (And.intro h2 h3))
 have HV := aB hv
 have HSw : Hid (∀ w', Below w.heap.size w w' -> w'.cell? (aV N 5) = some (.slice (some (aV lb lo)) n.clss.length n.clsC) /\ w'.cell? (aV lb (lo + k * 3 + 2)) = some (iV K.deliver)) := fun w' hb =>
  ⟨(hb.cell (p := (aV N 5)) hN.lt).trans n4, (hb.cell (p := (aV lb _)) hlb).trans l3⟩
 have hrd := gU p1 p2 m1 m2
 have hr1 : -100000000 <= ax of t /\ ax of t <= 100000000 := by unfold ax; omega
 have HRR := aB hr1
 have HPM := aB (And.intro (And.intro p1 p2) (And.intro m1 m2))
 have j1 : (0 : Int) <= (k : Int) := by omega
 have j2 : (k : Int) < (n.clss.length : Int) := by omega
 clear hN hlc h0 hlA hlb h1 h2 h3 hv hrd hr1 p1 p2 m1 m2
 go_enter Tryz.func82, Tryz.ntmps82
 go_wp2_with fail
 go_region_held3 (fun w' => w'.cell? (aV N 5) = some (.slice (some (aV lb lo)) n.clss.length n.clsC) /\ w'.cell? (aV lb (lo + k * 3 + 2)) = some (iV K.deliver)) (first | (with_reducible exact HSw.out _ (al (aJ _ _))) | (with_reducible exact HSw.out _ HB1.out) | (with_reducible exact HSw.out _ HB2.out) | (with_reducible exact HSw.out _ HB3.out)) (first
   | (go_at_call 68; refine (eG N n o ci of c _ (HN.out.drewN 1) HH.out.1 HH.out.2.1 HH.out.2.2).mono ?_; rintro e w1 ⟨rfl, hb⟩; have HB1 := aB (bdr hb); clear hb)
   | (go_at_call 129; refine (gR N n o of t _ (HN.out.below HB1.out) HH.out.1 HPM.out.1.1 HPM.out.1.2 HPM.out.2.1 HPM.out.2.2 (by omega) (by omega)).mono ?_; rintro e w2 ⟨rfl, hb⟩; have HB2 := aB (bt HB1.out hb); clear hb)
   | (go_at_call 67; refine (hO c K.deliver (ax of t) _ (HC.out.below HB2.out) HV.out a1 a2 HRR.out.1 HRR.out.2).mono ?_; rintro e w3 ⟨rfl, hb⟩; have HB3 := aB (bt HB2.out hb); clear hb)
   | fail)
 go_wp2_with fail
 go_ret2
 exact ⟨rfl, HB3.out⟩
theorem iy (i m : Int) (w : World) : Calls Tryz.prog 55 #[iV i, iV m] w fun e w' => e = .returned (.bool (decide (0 <= i) && decide (i < m))) /\ w = w' := by
 by_cases h : 0 <= i
 ·have HR : Hid ((decide (0 <= i) && decide (i < m)) = decide (i < m)) := by show _ = _; simp [h]
  go_enter Tryz.func55, Tryz.ntmps55
  go_wp2
  go_ret
  exact ⟨ah HR.out.symm, rfl⟩
 ·have HR : Hid ((decide (0 <= i) && decide (i < m)) = false) := by show _ = _; simp [h]
  go_enter Tryz.func55, Tryz.ntmps55
  go_wp2
  go_ret
  exact ⟨ah HR.out.symm, rfl⟩
structure St where
 office : Int
 arrive : Int
 depart : Int
 line : Int
def bO (s : St) : List Value := [iV s.office, iV s.arrive, iV s.depart, iV s.line]
theorem cH (s : St) : (bO s).length = 4 := rfl
def zOff : Off := ⟨[], 0, 0, 0, 0, 0, [], none, 0⟩
def zCal : Cal := ⟨0, [], none, 0, [], none, 0⟩
def zLin : Lin := ⟨[], 0, 0, 0, 0, 0⟩
def zCls : Cls := ⟨[], 0, 0⟩
def ap (n : Net) (o : Nat) : Off := n.offs.getD o zOff
def calAt (n : Net) (o : Nat) : Cal := n.cals.getD (ap n o).cal.toNat zCal
def af (n : Net) (l : Nat) : Lin := n.lins.getD l zLin
def aw (n : Net) (k : Nat) : Cls := n.clss.getD k zCls
structure cY (n : Net) : Prop where
 cal : ∀ c ∈ n.cals, du c = true
 off : ∀ o ∈ n.offs, (0 <= o.cal /\ o.cal < n.cals.length) /\ 1 <= o.passes /\ o.passes <= 4 /\ 1 <= o.minutes /\ o.minutes <= 240
 lin : ∀ l ∈ n.lins, (0 <= l.frm /\ l.frm < n.offs.length) /\ (0 <= l.to /\ l.to < n.offs.length) /\ 0 <= l.at_ /\ l.at_ < 1440 /\ 1 <= l.travel /\ l.travel <= 5000
 cls : ∀ k ∈ n.clss, 0 <= k.cut /\ k.cut < 1440 /\ 0 <= k.deliver /\ k.deliver < 1440
 few : n.cals.length <= 6 /\ n.offs.length <= 12 /\ n.lins.length <= 40 /\ n.clss.length <= 4
theorem bd {n : Net} {o : Nat} (h : o < n.offs.length) : n.offs[o]? = some (ap n o) := by unfold ap; simp [List.getD, h]
theorem bC {n : Net} {l : Nat} (h : l < n.lins.length) : n.lins[l]? = some (af n l) := by unfold af; simp [List.getD, h]
theorem bX {n : Net} {k : Nat} (h : k < n.clss.length) : n.clss[k]? = some (aw n k) := by unfold aw; simp [List.getD, h]
theorem cY.calAt {n : Net} (h : cY n) {o : Nat} (ho : o < n.offs.length) : ∃ ci : Nat, (ap n o).cal = (ci : Int) /\ n.cals[ci]? = some (calAt n o) /\ du (calAt n o) = true := by
 obtain ⟨⟨h1, h2⟩, -⟩ := h.off _ (aF (bd ho))
 have hlt : (ap n o).cal.toNat < n.cals.length := by omega
 have e : n.cals[(ap n o).cal.toNat]? = some (Go.Proofs.YtpeaiphdkgifaaaGreatDoor.calAt n o) := by unfold Go.Proofs.YtpeaiphdkgifaaaGreatDoor.calAt; simp [List.getD, hlt]
 exact ⟨(ap n o).cal.toNat, by omega, e, h.cal _ (aF e)⟩
structure NsC where
 ns : List Int
 A : Option Addr
 c : Nat
abbrev slI (x : NsC) : Value := .slice x.A x.ns.length x.c
structure Tab (w : World) (A : Option Addr) (rows : List NsC) : Prop where
 rd : Rd w A (rows.map slI)
 row : ∀ r ∈ rows, Rd w r.A (r.ns.map iV) /\ (∀ n ∈ r.ns, I64 n) /\ r.ns.length <= maxLen
theorem Tab.below {w w' : World} {A : Option Addr} {rows : List NsC} (h : Tab w A rows) (hb : Below w.heap.size w w') : Tab w' A rows := ⟨h.rd.below hb, fun r hr => ⟨(h.row r hr).1.below hb, (h.row r hr).2⟩⟩
def aX (nx : List NsC) (o d : Nat) : Int := ((nx.map (·.ns)).getD o []).getD d (-1)
def bi (n : Net) (nx : List NsC) : Prop := nx.length = n.offs.length /\ ∀ o < n.offs.length, ∃ r, nx[o]? = some r /\ r.ns.length = n.offs.length /\ ∀ l ∈ r.ns, l = -1 ∨ 0 <= l /\ l < n.lins.length /\ (af n l.toNat).frm = o
theorem fi {w : World} {base size n g c : Nat} {e : TypeId} {xs : List Value} (h : w.ownsRow base e size (.slice (some (aV g 0)) n c) n xs) (j : Nat) (u : Value) : (w.setCell (aV g j) u).ownsRow base e size (.slice (some (aV g 0)) n c) n (xs.set j u) := by
 refine ⟨by rw [List.length_set]; exact h.1, ?_⟩
 rcases h.2 with ⟨hv, _⟩ | ⟨g', cap, cur, hv, hb, hg, hc, hm, hs, ht⟩
 ·cases hv
 ·cases hv
  refine .inr ⟨g, c, cur.setIfInBounds j u, rfl, hb, ?_, hc, hm, by rw [Array.size_setIfInBounds]; exact hs, ?_⟩
  ·simp [World.setCell, Array.getElem?_modify, hg]
  ·rw [Array.toList_setIfInBounds, List.take_set, ht]
theorem gC {w : World} {base size n : Nat} {e : TypeId} {A : Option Addr} {c : Nat} {xs : List Value} (h : w.ownsRow base e size (.slice A n c) n xs) (hn : 0 < n) : ∃ g, A = some (aV g 0) /\ base <= g /\ g < w.heap.size /\ (∀ j, w.frozen? (aV g j) = false) /\ ∀ j v, xs[j]? = some v -> w.cell? (aV g j) = some v := by
 rcases h.2 with ⟨hv, h0⟩ | ⟨g, cap, cur, hv, hb, hg, hc, hm, hs, ht⟩
 ·omega
 ·cases hv
  refine ⟨g, rfl, hb, aa hg, fun j => ac hg j, fun j v hj => ?_⟩
  have := h.cells (g := g) rfl j v hj
  rw [gr, Nat.zero_add] at this
  exact this
theorem bp {B base : Nat} {w wr w4 : World} {e : TypeId} {size : Nat} {v : Value} {n : Nat} {xs : List Value} (HB : Below B w wr) (hB : B <= w.heap.size) (HO : wr.ownsRow base e size v n xs) (hb : B <= base) (HG : wr.grownBy w4 v.ownBlock) : Below B w w4 :=
 ⟨HG.os.trans HB.os, HG.tape.trans HB.tape, HG.output.trans HB.output, aG HB.size HG.size, fun i hi => (HG.block i (Nat.lt_of_lt_of_le (Nat.lt_of_lt_of_le hi hB) HB.size) (fun e => by have := (HO.lt i e.symm).1; omega)).trans (HB.block i hi)⟩
theorem Rd.new (w : World) (cs : List Value) (t : TypeId) : Rd (w.alloc (.cells cs.toArray t)) (some (aV w.heap.size 0)) cs := by
 refine .inr ⟨_, _, rfl, by simp, fun i u hu => ?_⟩
 rw [aA _ (aC w (.cells cs.toArray t))]
 simpa using hu
theorem fB {P : Program} {w : World} {tx e' : TypeId} (size : Nat) (hk : P.underlying tx = some (.slice e')) {b off m c : Nat} {xs : List Value} (h : Rd w (some (aV b off)) xs) (hn : xs.length = m * size) (h1 : ∀ u ∈ xs, u.oneCell' = true) : Src P size tx (.slice (some (aV b off)) m c) m xs w := by
 refine Src.ofSlice w hk _ m c xs hn (fun j u hu => ?_) h1
 rcases h with rfl | ⟨b', off', he, hb, hc⟩
 ·simp at hu
 ·cases he
  rw [gr]
  exact hc j u hu
theorem cf {c : Cal} {m t x : Int} (hm1 : 0 <= m) (hm2 : m < 1440) (h : ak c m t = (x, 0)) : t <= x /\ x <= t + 90000 := by
 rw [nK] at h
 rcases iU c (bm c m t) with ⟨d, hd⟩ | hd
 ·have hin := mw hd
  rw [hd] at h
  simp only [if_true] at h
  have hx : be c d m = x := (Prod.mk.inj h).1
  unfold bm bc fN at hin
  unfold be at hx
  split at hin <;> omega
 ·rw [hd] at h
  simp at h
def dE (n : Net) (o : Nat) (l : Int) : Prop := l = -1 ∨ 0 <= l /\ l < n.lins.length /\ (af n l.toNat).frm = o
theorem ep (n : Net) (nx : List NsC) : bi n nx ↔ nx.length = n.offs.length /\ ∀ o r, nx[o]? = some r -> r.ns.length = n.offs.length /\ ∀ l ∈ r.ns, dE n o l := by
 unfold bi dE
 constructor
 ·rintro ⟨h1, h2⟩
  refine ⟨h1, fun o r hr => ?_⟩
  obtain ⟨hlt, -⟩ := aE.1 hr
  obtain ⟨r', hr', h3⟩ := h2 o (by omega)
  rw [hr] at hr'
  cases hr'
  exact h3
 ·rintro ⟨h1, h2⟩
  refine ⟨h1, fun o ho => ?_⟩
  exact ⟨nx[o]'(by omega), aD _, h2 o _ (aD _)⟩
noncomputable def formB (n : Net) (nx : List NsC) : Bool := @decide (bi n nx) (Classical.propDecidable _)
theorem et {n : Net} {nx : List NsC} : formB n nx = true ↔ bi n nx := by unfold formB; simp
theorem eE {n : Net} {nx : List NsC} (h : ¬ bi n nx) : formB n nx = false := by rw [Bool.eq_false_iff]; exact fun h2 => h (et.1 h2)
end Go.Proofs.YtpeaiphdkgifaaaGreatDoor
