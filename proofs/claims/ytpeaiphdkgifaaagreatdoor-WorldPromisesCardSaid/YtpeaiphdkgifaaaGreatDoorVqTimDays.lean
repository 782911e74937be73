/- The walks over timetable's iterator of working days. -/
import Derived.Test.YtpeaiphdkgifaaaGreatDoorVqTimCal
import Derived.RangeFuncFrom
import Derived.Laws.EntriesVeiled
namespace Go.Proofs.YtpeaiphdkgifaaaGreatDoor
open Go.RowKit
set_option maxHeartbeats 20000000
set_option maxRecDepth 100000
section
attribute [local go_sem] Oper.semAt_some
structure Wt (w : World) (c : Cal) (B1 B2 B3 : Nat) (first last : Int) : Prop where
 cal : cP w c
 b1 : w.cell? (aV B1 0) = some (iV first)
 b2 : w.cell? (aV B2 0) = some (iV last)
 c0 : w.cell? (aV B3 0) = some (iV c.zone)
 c1 : w.cell? (aV B3 1) = some (.slice c.wA c.week.length c.wc)
 c2 : w.cell? (aV B3 2) = some (.slice c.hA c.hol.length c.hc)
abbrev lh (c : Cal) := { x : Int // cz c x = true /\ dr x = true }
def gO {c : Cal} (xs : List (lh c)) : List Int := xs.map (·.1)
theorem f9 {c : Cal} (xs : List (lh c)) (x : lh c) : gO (xs ++ [x]) = gO xs ++ [x.1] := by simp [gO]
def TimAll (c : Cal) (first : Int) (n : Nat) (xs : List (lh c)) : Prop := gO xs = bY c n first
def sM (c : Cal) (first : Int) (n : Nat) (pre : List (lh c)) : Prop := ∃ x pre' t, pre = pre' ++ [x] /\ bY c n first = gO pre ++ t
theorem gX {w w' : World} (hb : Below w.heap.size w w') {b i : Nat} {v : Value} (h : w.cell? (aV b i) = some v) : w'.cell? (aV b i) = some v := (hb.cell (p := (aV b i)) (aM w _ h)).trans h
theorem Wt.below {w w' : World} {c : Cal} {B1 B2 B3 : Nat} {first last : Int} (h : Wt w c B1 B2 B3 first last) (hb : Below w.heap.size w w') : Wt w' c B1 B2 B3 first last :=
 ⟨h.cal.below hb, gX hb h.b1, gX hb h.b2, gX hb h.c0, gX hb h.c1, gX hb h.c2⟩
theorem uQ (c : Cal) (B1 B2 B3 : Nat) (first last : Int) (w : World) (hw : Wt w c B1 B2 B3 first last) (hv : du c = true) (hf1 : -900000 <= first) (hl1 : last <= 900000) (hfl : first <= last + 1) :
  SeqStopsK Fence.wide 8 Tryz.prog 148 #[.pointer (some (aV B1 0)), .pointer (some (aV B2 0)), .pointer (some (aV B3 0))] (fun x : lh c => #[iV x.1]) (Below w.heap.size) (TimAll c first (last + 1 - first).toNat) (sM c first (last + 1 - first).toNat) (last + 1 - first).toNat w := by
 intro l J Jx W hW hJ hJx hY hJ0
 have HW0 := aB hW
 have HWT := aB hw
 have HJ := aB hJ; clear hJ
 have HJx := aB hJx; clear hJx
 have HY := aB hY; clear hY
 have HV := aB hv
 have e1 := (hw.below hW).b1
 clear hw hW hv
 refine callsIn_of_wp Tryz.func148 rfl trivial ?_ rfl
 simp only [Tryz.ntmps148, List.size_toArray, List.length_cons, List.length_nil, Nat.reduceAdd, Nat.reduceSub, Array.replicate_succ, Array.replicate_zero, List.push_toArray, List.append_toArray, List.nil_append, List.cons_append]
 gi_wp2
 clear e1
 generalize hN : (last + 1 - first).toNat = N at *
 have HN := aB hN; clear hN
 gi_loopw [5] (fun i wr => ∃ (k : Nat) (pre : List (lh c)), k <= N /\ i = iV (first + k) /\ J pre wr /\ Below w.heap.size w wr /\ gO pre = bY c k first) (fun i _ => (last + 1 - intOf i).toNat)
 case atStart => exact ⟨0, [], Nat.zero_le _, by go_num, hJ0, HW0.out, rfl⟩
 case round =>
  obtain ⟨k, pre, hk, rfl, hj, hB, hvl⟩ := hrel
  have HB := aB hB; clear hB
  have HJK := aB hj; clear hj
  have HVL := aB hvl; clear hvl
  have HS := aB (HWT.out.below HB.out)
  have c0 := HS.out.c0
  have c1 := HS.out.c1
  have c2 := HS.out.c2
  have b2 := HS.out.b2
  have hNN := HN.out
  by_cases hlt : k < N
  ·have g1 : first + (k : Int) <= last := by omega
   have hd : I64 (first + k) := ⟨by omega, by omega⟩
   have hdr : dr (first + k) = true := by unfold dr; simp; omega
   have HD := aB hd; clear hd
   have HDR := aB hdr; clear hdr
   have hsn := f8 c k first
   cases hwk : cz c (first + k) with
   | false =>
    rw [hwk] at hsn
    have HSN := aB hsn; clear hsn
    have HWK : Hid ((du c && dr (first + k) && cz c (first + k)) = false) := by show _ = _; rw [hwk]; simp
    clear hwk
    gi_wp2_with (refine ⟨trivial, ?_⟩; gi_at_call 149; refine (callsIn_wide.2 (work_any c (first + k) _ HS.out.cal HD.out)).mono ?_; rintro e w1 ⟨rfl, hb⟩; rw [HWK.out]; clear c0 c1 c2 b2)
    refine ⟨fun _ h => (by cases h), ?_⟩
    gi_wp2
    exact ⟨⟨k + 1, pre, by omega, by go_num, HJ.out pre wr w1 none HJK.out (cT hb none) (fun r e => by cases e), HB.out.trans (hb.mono HB.out.size), by rw [HVL.out, HSN.out]; simp⟩, by simp [intOf]; omega⟩
   | true =>
    rw [hwk] at hsn
    have HSN := aB hsn; clear hsn
    have HWB := aB hwk
    have HWK : Hid ((du c && dr (first + k) && cz c (first + k)) = true) := by show _ = _; rw [hwk, HV.out, HDR.out]; rfl
    clear hwk
    have hlen : pre.length < N := by
     have h1 := congrArg List.length HVL.out
     have h2 := jm c k first
     simp [gO] at h1
     omega
    have HLEN := aB hlen; clear hlen
    have hpart : Hid (sM c first N (pre ++ [⟨first + k, HWB.out, HDR.out⟩])) := by
     refine ⟨_, pre, bY c (N - (k + 1)) (first + ((k + 1 : Nat) : Int)), rfl, ?_⟩
     rw [f9, HVL.out]
     have h1 := gN c (k + 1) (N - (k + 1)) first
     rw [show k + 1 + (N - (k + 1)) = N by omega, HSN.out] at h1
     simpa using h1
    gi_wp2_with (refine ⟨trivial, ?_⟩; gi_at_call 149; refine (callsIn_wide.2 (work_any c (first + k) _ HS.out.cal HD.out)).mono ?_; rintro e w1 ⟨rfl, hb⟩; rw [HWK.out]; clear c0 c1 c2 b2)
    obtain ⟨fn, tmps, assign, body, hy, hR⟩ := HY.out pre ⟨first + k, HWB.out, HDR.out⟩ w1 (HJ.out pre wr w1 none HJK.out (cT hb none) (fun r e => by cases e)) HLEN.out
    have HB1 := aB (HB.out.trans (hb.mono HB.out.size))
    clear HS HJK hb HB
    dsimp only at hy
    rw [hy]
    gi_wp2
    refine hR.mono ?_
    clear hy hR
    rintro e W3 (⟨rfl, hj3, hk3⟩ | ⟨rfl, hx3⟩)
    ·have HB3 := aB (HB1.out.trans hk3)
     have HJ3 := aB hj3
     clear hj3 hk3 HB1
     gi_wp2
     exact ⟨⟨k + 1, _, by omega, by go_num, HJ3.out, HB3.out, by rw [f9, HVL.out, HSN.out]; simp⟩, by simp [intOf]; omega⟩
    ·have HX3 := aB hx3
     clear hx3
     gi_wp2
     refine bodyPost_ret (results_none rfl _ _ _) rfl ?_
     exact ⟨⟨_, rfl⟩, .inr ⟨_, by rw [HN.out]; exact hpart.out, HX3.out⟩⟩
  ·obtain hkm : k = N := by omega
   have g1 : ¬ first + (k : Int) <= last := by omega
   have HKM := aB hkm; clear hkm
   gi_wp2
   go_end0
   exact ⟨⟨_, rfl⟩, .inl ⟨pre, HVL.out.trans (by rw [HKM.out]), HJK.out⟩⟩
def WtR (c : Cal) (first last : Int) (w : World) (e : Ending) (w' : World) : Prop :=
 ∃ B1 B2 B3, e = .returned (.func (.func 148) #[] #[.pointer (some (aV B1 0)), .pointer (some (aV B2 0)), .pointer (some (aV B3 0))]) /\ Wt w' c B1 B2 B3 first last /\ Below w.heap.size w w'
theorem qQ (c : Cal) (first last : Int) (w : World) (hc : cP w c) :
  Calls Tryz.prog 103 #[eI c, iV first, iV last] w (WtR c first last w) := by
 have HC := aB hc
 have HX : Hid ((((w.alloc (.cells #[iV c.zone, .slice c.wA c.week.length c.wc, .slice c.hA c.hol.length c.hc] 110)).alloc (.cells #[iV first] 3)).alloc (.cells #[iV last] 3)).heap[w.heap.size]? = some (.cells #[iV c.zone, .slice c.wA c.week.length c.wc, .slice c.hA c.hol.length c.hc] 110)) := (aK _ _ _ (by simp; omega)).trans ((aK _ _ _ (by simp)).trans (aC _ _))
 have HB1 : Hid ((((w.alloc (.cells #[iV c.zone, .slice c.wA c.week.length c.wc, .slice c.hA c.hol.length c.hc] 110)).alloc (.cells #[iV first] 3)).alloc (.cells #[iV last] 3)).heap[w.heap.size + 1]? = some (.cells #[iV first] 3 (0, 0))) := by
  refine (aK _ _ _ (by simp)).trans ?_
  have := aC (w.alloc (.cells #[iV c.zone, .slice c.wA c.week.length c.wc, .slice c.hA c.hol.length c.hc] 110)) (.cells #[iV first] 3)
  rwa [aT] at this
 have HB2 : Hid ((((w.alloc (.cells #[iV c.zone, .slice c.wA c.week.length c.wc, .slice c.hA c.hol.length c.hc] 110)).alloc (.cells #[iV first] 3)).alloc (.cells #[iV last] 3)).heap[w.heap.size + 1 + 1]? = some (.cells #[iV last] 3 (0, 0))) := by
  have := aC ((w.alloc (.cells #[iV c.zone, .slice c.wA c.week.length c.wc, .slice c.hA c.hol.length c.hc] 110)).alloc (.cells #[iV first] 3)) (.cells #[iV last] 3)
  rwa [aT, aT] at this
 have HB0 : Hid (Below w.heap.size w (((w.alloc (.cells #[iV c.zone, .slice c.wA c.week.length c.wc, .slice c.hA c.hol.length c.hc] 110)).alloc (.cells #[iV first] 3)).alloc (.cells #[iV last] 3))) := (((aJ _ w).alloc (aH _) _).alloc (by simp) _).alloc (by simp; omega) _
 clear hc
 go_enter Tryz.func103, Tryz.ntmps103
 go_upto_region 1 with fail
 change Code.wp _ _ _ _ (((w.alloc (.cells #[iV c.zone, .slice c.wA c.week.length c.wc, .slice c.hA c.hol.length c.hc] 110)).alloc (.cells #[iV first] 3)).alloc (.cells #[iV last] 3))
 generalize (((w.alloc (.cells #[iV c.zone, .slice c.wA c.week.length c.wc, .slice c.hA c.hol.length c.hc] 110)).alloc (.cells #[iV first] 3)).alloc (.cells #[iV last] 3)) = W0 at *
 go_wp2
 go_ret
 exact ⟨w.heap.size + 1, w.heap.size + 1 + 1, w.heap.size, rfl, ⟨HC.out.below HB0.out, aA 0 HB1.out, aA 0 HB2.out, aA 0 HX.out, aA 1 HX.out, aA 2 HX.out⟩, HB0.out⟩
end
end Go.Proofs.YtpeaiphdkgifaaaGreatDoor
