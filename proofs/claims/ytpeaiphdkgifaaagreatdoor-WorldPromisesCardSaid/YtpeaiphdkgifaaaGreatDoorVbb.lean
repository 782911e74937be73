/- The walk over the iterator of departures. An item in memory leaves, -/
import Derived.Test.YtpeaiphdkgifaaaGreatDoorVaw
import Derived.Test.YtpeaiphdkgifaaaGreatDoorVba
import Derived.Test.YtpeaiphdkgifaaaGreatDoorVax
import Derived.Test.YtpeaiphdkgifaaaGreatDoorVap
import Derived.Test.YtpeaiphdkgifaaaGreatDoorShelf
import Derived.Lib.AppendIntMem
import Derived.Test.YtpeaiphdkgifaaaGreatDoorVai
import Derived.Deep.QuietTactic
import Derived.BigQuiet
import Derived.Test.YtpeaiphdkgifaaaGreatDoorVac
namespace Go.Proofs.YtpeaiphdkgifaaaGreatDoor
open Go.RowKit
set_option maxHeartbeats 20000000
set_option maxRecDepth 100000
section
attribute [local go_sem] Oper.semAt_some
theorem mA {p : Nat -> Prop} (h : ∃ m, p m) : ∃ m, p m /\ ∀ k, p k -> m <= k := by
 obtain ⟨m, hm⟩ := h
 induction m using Nat.strongRecOn with
 | _ m ih =>
  by_cases hk : ∃ k, k < m /\ p k
  ·obtain ⟨k, h1, h2⟩ := hk
   exact ih k h1 h2
  ·exact ⟨m, hm, fun k hp => Nat.le_of_not_lt (fun h => hk ⟨k, h, hp⟩)⟩
open Classical in
noncomputable def least (p : Nat -> Prop) : Nat := if h : ∃ m, p m then (mA h).choose else 0
theorem vO {p : Nat -> Prop} {k : Nat} (h : p k) : least p <= k := by
 unfold least
 rw [dif_pos ⟨k, h⟩]
 exact (mA ⟨k, h⟩).choose_spec.2 k h
theorem vP {p : Nat -> Prop} {k : Nat} (h : p k) : p (least p) := by
 unfold least
 rw [dif_pos ⟨k, h⟩]
 exact (mA ⟨k, h⟩).choose_spec.1
def fH (b : Nat) : Value := .pointer (some (aV b 0))
structure DpV (hb B1 B2 : Nat) (before : Int) (iA : Option Addr) (iC : Nat) (bs : List Nat) (k : Nat) (W : World) : Prop where
 b1 : W.cell? (aV B1 0) = some (fH hb)
 b2 : W.cell? (aV B2 0) = some (iV before)
 h7 : W.cell? (aV hb 7) = some (.slice iA bs.length iC)
 rd : Rd W iA (bs.map fH)
 it : ∀ b, bs[k]? = some b -> ∃ ln lv, I64 ln /\ I64 lv /\ W.cell? (aV b 11) = some (iV ln) /\ W.cell? (aV b 12) = some (iV lv)
def DpG (bs : List Nat) (before : Int) (k : Nat) (W : World) : Prop := ∃ b ln lv, bs[k]? = some b /\ W.cell? (aV b 11) = some (iV ln) /\ W.cell? (aV b 12) = some (iV lv) /\ 0 <= ln /\ lv < before
theorem dep_seq (hb B1 B2 : Nat) (before : Int) (iA : Option Addr) (iC : Nat) (bs : List Nat) (hl : bs.length <= 100) :
  SeqD Tryz.prog 147 #[fH B1, fH B2] bs.length (fun k => #[fH (bs.getD k 0)]) (DpV hb B1 B2 before iA iC bs) (DpG bs before) := by
 intro l J Jx hJ hV hN hY W μ hJ0
 have HJ := aB hJ; clear hJ
 have HV := aB hV; clear hV
 have HN := aB hN; clear hN
 have HY := aB hY; clear hY
 have e1 : W.cell? (aV B1 0) = some (.pointer (some (aV hb 0))) := (HV.out 0 μ W hJ0).b1
 have e2 := (HV.out 0 μ W hJ0).h7
 have HJ0 := aB hJ0
 clear hJ0
 refine callsIn_of_wp Tryz.func147 rfl trivial ?_ rfl
 simp only [Tryz.ntmps147, fH, List.size_toArray, List.length_cons, List.length_nil, Nat.reduceAdd, Nat.reduceSub, Array.replicate_succ, Array.replicate_zero, List.push_toArray, List.append_toArray, List.nil_append, List.cons_append]
 gi_wp2
 clear e1 e2
 gi_loopw [5, 11] (fun _ i wr => ∃ k : Nat, k <= bs.length /\ i = iV k /\ ∃ μ : Nat, J k μ wr) (fun _ i _ => bs.length + 1 - (intOf i).toNat)
 case atStart => exact ⟨0, by omega, rfl, μ, HJ0.out⟩
 case round =>
  obtain ⟨k, hk, rfl, ν, hjk⟩ := hrel
  have HJK := aB hjk; clear hjk HJ0
  have k0 : (0 : Int) <= (k : Int) := by omega
  by_cases hkt : k < bs.length
  case neg =>
   have k1 : ¬ (k : Int) < (bs.length : Int) := by omega
   obtain rfl : k = bs.length := by omega
   gi_wp2
   refine bodyPost_end (results_none rfl _ _ _) rfl ?_
   exact ⟨⟨_, rfl⟩, .inl ⟨ν, HJK.out⟩⟩
  have HKT := aB hkt
  have k1 : (k : Int) < (bs.length : Int) := by omega
  obtain ⟨b, hb9⟩ : ∃ b, bs[k]? = some b := ⟨_, aD hkt⟩
  have HBE := aB hb9
  obtain ⟨ib, io, hA, -, hc⟩ := (HV.out k ν wr HJK.out).rd.get (i := k) (by simpa using hkt)
  have c1 : wr.cell? (aV ib (io + k)) = some (.pointer (some (aV b 0))) := hc k (fH b) (by rw [aS, hb9]; rfl)
  have HA := aB hA
  rw [hA]
  clear hA hc hb9
  gi_wp2_with fail
  clear c1
  gi_loopw [] (fun wr => ∃ ν : Nat, J k ν wr) (fun wr => least fun ν => J k ν wr)
  case atStart => exact ⟨ν, HJK.out⟩
  case round =>
  obtain ⟨ν2, hj2⟩ := hrel
  have HL := aB (vP (p := fun ν => J k ν wr) hj2)
  have HJ2 := aB hj2
  clear hj2 HJK
  obtain ⟨ln, lv, i1, i2, d1, d2⟩ := (HV.out k ν2 wr HJ2.out).it b HBE.out
  have d3 := (HV.out k ν2 wr HJ2.out).b2
  by_cases hg : 0 <= ln /\ lv < before
  case neg =>
   have HNG : Hid (¬ DpG bs before k wr) := fun ⟨b2, x, y, h1, h2, h3, h4, h5⟩ => by
    rw [HBE.out] at h1
    cases h1
    rw [d1] at h2
    rw [d2] at h3
    cases h2
    cases h3
    exact hg ⟨h4, h5⟩
   obtain ⟨ν3, hj3⟩ := HN.out k ν2 wr hkt HJ2.out HNG.out
   have HJ5 := aB hj3
   clear hj3
   by_cases hl0 : 0 <= ln
   ·have hl1 : ¬ lv < before := fun h => hg ⟨hl0, h⟩
    refine wpIn_seq ?_
    refine wpIn_seq ?_
    refine wpIn_wide.2 ?_
    go_quiet (fail)
    change Code.wpIn Fence.wide 8 _ _ _ _ _
    have HJ4 := aB (HJ.out (k + 1) ν3 _ (wr.drewN nq) HJ5.out (ai (aJ _ _) nq))
    gi_wp2
    exact ⟨⟨k + 1, by have := HKT.out; omega, by go_num, ν3, HJ4.out⟩, by have := HKT.out; simp [intOf]; omega⟩
   ·have hl1 : ln < 0 := by omega
    refine wpIn_seq ?_
    refine wpIn_seq ?_
    refine wpIn_wide.2 ?_
    go_quiet (fail)
    change Code.wpIn Fence.wide 8 _ _ _ _ _
    have HJ4 := aB (HJ.out (k + 1) ν3 _ (wr.drewN nq) HJ5.out (ai (aJ _ _) nq))
    gi_wp2
    exact ⟨⟨k + 1, by have := HKT.out; omega, by go_num, ν3, HJ4.out⟩, by have := HKT.out; simp [intOf]; omega⟩
  obtain ⟨hg1, hg2⟩ := hg
  have HGO : Hid (DpG bs before k wr) := ⟨b, ln, lv, HBE.out, d1, d2, hg1, hg2⟩
  refine wpIn_seq ?_
  refine wpIn_seq ?_
  refine wpIn_wide.2 ?_
  go_quiet (fail)
  change Code.wpIn Fence.wide 8 _ _ _ _ _
  have HJ4 := aB (HJ.out k _ _ (wr.drewN nq) HL.out (ai (aJ _ _) nq))
  have HG4 : Hid (DpG bs before k (wr.drewN nq)) := HGO.out
  clear d1 d2 d3
  obtain ⟨fn, tmps, assign, body, hy, hR⟩ := HY.out k _ _ hkt HJ4.out HG4.out
  rw [show bs.getD k 0 = b by rw [List.getD_eq_getElem?_getD, HBE.out]; rfl, fH] at hy
  gi_wp2_with fail
  refine hR.mono ?_
  clear hy hR
  rintro e W3 (⟨rfl, μ', hμ, hj3⟩ | ⟨rfl, hx⟩)
  ·have HJ6 := aB hj3
   have HM : Hid ((least fun ν => J k ν W3) < least fun ν => J k ν wr) := Nat.lt_of_le_of_lt (vO (p := fun ν => J k ν W3) hj3) hμ
   clear hj3
   gi_wp2
   exact ⟨⟨μ', HJ6.out⟩, HM.out⟩
  ·gi_wp2
   refine bodyPost_ret (results_none rfl _ _ _) rfl ?_
   exact ⟨⟨_, rfl⟩, .inr hx⟩
def DepW (w : World) (hb : Nat) (before : Int) (e : Ending) (w' : World) : Prop :=
 e = .returned (.func (.func 147) #[] #[fH w.heap.size, fH (w.heap.size + 1)]) /\ w'.heap[w.heap.size]? = some (.cells #[fH hb] 91 (0, 0)) /\ w'.heap[w.heap.size + 1]? = some (.cells #[iV before] 3 (0, 0)) /\ Below w.heap.size w w'
theorem mP (hb : Nat) (before : Int) (w : World) : Calls Tryz.prog 99 #[.pointer (some (aV hb 0)), iV before] w (DepW w hb before) := by
 have hmf : ∀ (fn : Fn) (first cap : Array Value) (w : World), (Instr.makeFunc fn first cap).run Tryz.prog w = .ok (.func fn first cap) w := fun _ _ _ _ => rfl
 go_enter Tryz.func99, Tryz.ntmps99
 go_wp2
 go_ret
 have hb1 : Below w.heap.size w ((w.alloc (.cells #[.pointer (some (aV hb 0))] 91)).alloc (.cells #[iV before] 3)) := ((aJ _ w).alloc (aH _) _).alloc (by simp) _
 have c1 := aC (w.alloc (.cells #[.pointer (some (aV hb 0))] 91)) (.cells #[iV before] 3)
 rw [aT] at c1
 exact ⟨rfl, (aK _ _ _ (by simp)).trans (aC _ _), c1, hb1⟩
end
theorem ji {a : ItA} (h : a.blks.Nodup) : (a.b ≠ a.sB /\ a.b ≠ a.nB /\ a.b ≠ a.lB /\ a.sB ≠ a.nB /\ a.sB ≠ a.lB /\ a.nB ≠ a.lB) /\ (∀ x, a.eA.map (·.block) = some x -> x ≠ a.b /\ x ≠ a.sB /\ x ≠ a.nB /\ x ≠ a.lB) := by
 unfold ItA.blks at h
 obtain ⟨p1, -, p3⟩ := List.nodup_append.1 h
 have m : ∀ x, a.eA.map (·.block) = some x -> x ∈ (a.eA.map (·.block)).toList := fun x hx => by rw [hx]; simp
 simp at p1
 refine ⟨⟨p1.1.1, p1.1.2.1, p1.1.2.2, p1.2.1.1, p1.2.1.2, p1.2.2⟩, fun x hx => ?_⟩
 have g1 : ∀ y ∈ [a.b, a.sB, a.nB, a.lB], x ≠ y := fun y hy e => p3 y hy x (m x hx) e.symm
 exact ⟨g1 _ (by simp), g1 _ (by simp), g1 _ (by simp), g1 _ (by simp)⟩
theorem qC {a : ItA} (n1 : a.b ≠ a.sB /\ a.b ≠ a.nB /\ a.b ≠ a.lB /\ a.sB ≠ a.nB /\ a.sB ≠ a.lB /\ a.nB ≠ a.lB) (n4 : ∀ x, a.eA.map (·.block) = some x -> x ≠ a.b /\ x ≠ a.sB /\ x ≠ a.nB /\ x ≠ a.lB) : a.blks.Nodup := by
 obtain ⟨a1, a2, a3, a4, a5, a6⟩ := n1
 have m : ∀ x, x ∈ (a.eA.map (·.block)).toList -> a.eA.map (·.block) = some x := fun x hx => by simpa using hx
 have one : ∀ o : Option Nat, o.toList.Nodup := fun o => by cases o <;> simp
 unfold ItA.blks
 refine List.nodup_append.2 ⟨by simp; exact ⟨⟨a1, a2, a3⟩, ⟨a4, a5⟩, a6⟩, one _, fun x hx y hy e => ?_⟩
 subst e
 obtain ⟨y1, y2, y3, y4⟩ := n4 x (m x hy)
 simp at hx
 rcases hx with h | h | h | h
 ·exact y1 h
 ·exact y2 h
 ·exact y3 h
 ·exact y4 h
theorem sw {w : World} {base g n c s : Nat} {e : TypeId} {xs : List Value} (h : w.ownsRow base e s (.slice (some (aV g 0)) n c) n xs) (i : Nat) (v : Value) : (w.setCell (aV g i) v).ownsRow base e s (.slice (some (aV g 0)) n c) n (xs.set i v) := by
 refine ⟨by simpa using h.1, ?_⟩
 rcases h.2 with ⟨h2, -⟩ | ⟨k, cp, cur, h2, hb, hg, h3, h4, h5, h6⟩
 ·cases h2
 ·cases h2
  refine .inr ⟨g, c, cur.setIfInBounds i v, rfl, hb, bE hg i v, h3, h4, by simpa using h5, ?_⟩
  rw [Array.toList_setIfInBounds, <- h6, List.take_set]
def cF (it : Itm) : Itm := { it with stops := it.stops.dropLast ++ [{ aj it.stops with depart := it.leave, line := it.line }] }
theorem oS {it : Itm} (hne : it.stops ≠ []) : ((it.stops.flatMap bO).set ((it.stops.length - 1) * 4 + 2) (iV it.leave)).set ((it.stops.length - 1) * 4 + 3) (iV it.line) = (cF it).stops.flatMap bO := by
 have hs := lP hne
 have hl : (it.stops.dropLast.flatMap bO).length = (it.stops.length - 1) * 4 := by
  have : ∀ l : List St, (l.flatMap bO).length = l.length * 4 := fun l => by
   induction l with
   | nil => rfl
   | cons x l ih => rw [List.flatMap_cons, List.length_append, ih, List.length_cons]; show 4 + _ = _; omega
  rw [this, List.length_dropLast]
 have h1 : it.stops.flatMap bO = it.stops.dropLast.flatMap bO ++ bO (aj it.stops) := by
  conv => lhs; rw [hs]
  rw [List.flatMap_append, List.flatMap_singleton]
 rw [h1, List.set_append_right _ _ (by omega), hl, Nat.add_sub_cancel_left, List.set_append_right _ _ (by omega), hl, Nat.add_sub_cancel_left]
 show _ = (it.stops.dropLast ++ [_]).flatMap bO
 rw [List.flatMap_append, List.flatMap_singleton]
 rfl
theorem jX {it : Itm} (hne : it.stops ≠ []) : (cF it).stops.length = it.stops.length := by
 have := aL.2 hne
 show (it.stops.dropLast ++ [_]).length = _
 simp
 omega
theorem dS.depart {base : Nat} {W : World} {it : Itm} {a : ItA} (hi : cD base W it a) (hnd : a.blks.Nodup) (hne : it.stops ≠ []) :
  dS base W ((W.setCell (aV a.sB ((it.stops.length - 1) * 4 + 2)) (iV it.leave)).setCell (aV a.sB ((it.stops.length - 1) * 4 + 3)) (iV it.line)) a a (cF it) := by
 obtain ⟨⟨b_s, b_n, b_l, s_n, s_l, n_l⟩, n4⟩ := ji hnd
 obtain ⟨lv, l1, l2, l3⟩ := hi.cells
 have hk : ∀ x, x ≠ a.sB -> ((W.setCell (aV a.sB ((it.stops.length - 1) * 4 + 2)) (iV it.leave)).setCell (aV a.sB ((it.stops.length - 1) * 4 + 3)) (iV it.line)).heap[x]? = W.heap[x]? := fun x h => (Below.heap_setCell _ _ _ _ h).trans (Below.heap_setCell _ _ _ _ h)
 refine ⟨⟨⟨lv, l1, l2, ?_⟩, hi.ge, ?_, cM hi.si (hk _ s_n.symm), cM hi.la (hk _ s_l.symm), kN hi.se (fun g hg => hk g (n4 g hg).2.1)⟩, (dW _ _ _ (by simp [ItA.blks])).set _ _ (.inl (by simp [ItA.blks])), fun b hb => .inl hb, hnd, rfl⟩
 ·rw [hk _ b_s, l3]
  show some (Obj.cells (fQ it a lv) _ _) = some (Obj.cells #[_, _, _, _, _, .slice _ (cF it).stops.length _, _, _, _, _, _, _, _] _ _)
  rw [jX hne]
  rfl
 ·rw [jX hne, <- oS hne]
  exact sw (sw hi.st _ _) _ _
theorem dS.seals {base : Nat} {W V : World} {it : Itm} {a : ItA} {x : List UInt8} {g c : Nat} (hi : cD base W it a) (hnd : a.blks.Nodup) (own : V.ownsRow base 9 1 (.slice (some (aV g 0)) (it.seals.length + 1) c) (it.seals.length + 1) (it.seals.map sV ++ [sV x])) (hat : a.eA.map (·.block) = some g ∨ W.heap.size <= g) (hc : bz (a.eA.map (·.block)).toList W V) :
  dS base W (V.setCell (aV a.b 9) (.slice (some (aV g 0)) (it.seals.length + 1) c)) a { a with eA := some (aV g 0), eC := c } { it with seals := it.seals ++ [x] } := by
 obtain ⟨⟨b_s, b_n, b_l, s_n, s_l, n_l⟩, n4⟩ := ji hnd
 obtain ⟨lv, l1, l2, l3⟩ := hi.cells
 have lt : ∀ x ∈ a.blks, x < W.heap.size := fun x hx => (hi.lt x hx).2
 have m4 : ∀ x ∈ [a.b, a.sB, a.nB, a.lB], x < W.heap.size := fun x hx => lt x (aQ _ hx)
 have hno : ∀ x ∈ [a.b, a.sB, a.nB, a.lB], x ∉ (a.eA.map (·.block)).toList := fun x hx h => by
  have h2 : a.eA.map (·.block) = some x := by simpa using h
  obtain ⟨y1, y2, y3, y4⟩ := n4 x h2
  simp at hx
  rcases hx with h | h | h | h
  ·exact y1 h
  ·exact y2 h
  ·exact y3 h
  ·exact y4 h
 have hV : ∀ x ∈ [a.b, a.sB, a.nB, a.lB], V.heap[x]? = W.heap[x]? := fun x hx => hc.block x (m4 x hx) (hno x hx)
 have hk : ∀ x, x ≠ a.b -> (V.setCell (aV a.b 9) (.slice (some (aV g 0)) (it.seals.length + 1) c)).heap[x]? = V.heap[x]? := fun x h => Below.heap_setCell _ _ _ _ h
 have hg : ∀ x ∈ [a.b, a.sB, a.nB, a.lB], g ≠ x := fun x hx e => by
  rcases hat with h | h
  ·exact hno x hx (by rw [<- e, h]; exact aR.2 rfl)
  ·have := m4 x hx; omega
 have vb : V.heap[a.b]? = some _ := (hV _ (by simp)).trans l3
 refine ⟨⟨⟨lv, l1, l2, ?_⟩, hi.ge, cM hi.st ((hk _ b_s.symm).trans (hV _ (by simp))), cM hi.si ((hk _ b_n.symm).trans (hV _ (by simp))), cM hi.la ((hk _ b_l.symm).trans (hV _ (by simp))), ?_⟩, (hc.mono (fun x hx => aP _ hx)).set _ _ (.inl (aQ _ (by simp))), fun x hx => ?_, ?_, rfl⟩
 ·rw [bE vb 9 _]
  simp
 ·have := cM own (hk g (hg _ (by simp)))
  simpa using this
 ·unfold ItA.blks at hx ⊢
  rcases List.mem_append.1 hx with hx | hx
  ·exact .inl (aQ _ hx)
  ·simp at hx
   subst hx
   rcases hat with h | h
   ·exact .inl (aP _ (by rw [h]; simp))
   ·exact .inr h
 ·refine qC ⟨b_s, b_n, b_l, s_n, s_l, n_l⟩ (fun x hx => ?_)
  have e : g = x := by simpa using hx
  subst e
  exact ⟨hg _ (by simp), hg _ (by simp), hg _ (by simp), hg _ (by simp)⟩
theorem dS.stops {base : Nat} {W V : World} {it : Itm} {a : ItA} {s : St} {g c : Nat} (hi : cD base W it a) (hnd : a.blks.Nodup) (own : V.ownsRow base 50 4 (.slice (some (aV g 0)) (it.stops.length + 1) c) (it.stops.length + 1) (it.stops.flatMap bO ++ bO s)) (hat : g = a.sB ∨ W.heap.size <= g) (hc : bz [a.sB] W V) :
  dS base W (V.setCell (aV a.b 5) (.slice (some (aV g 0)) (it.stops.length + 1) c)) a { a with sB := g, sC := c } { it with stops := it.stops ++ [s] } := by
 obtain ⟨⟨b_s, b_n, b_l, s_n, s_l, n_l⟩, n4⟩ := ji hnd
 obtain ⟨lv, l1, l2, l3⟩ := hi.cells
 have lt : ∀ x ∈ a.blks, x < W.heap.size := fun x hx => (hi.lt x hx).2
 have m4 : ∀ x ∈ [a.b, a.sB, a.nB, a.lB], x < W.heap.size := fun x hx => lt x (aQ _ hx)
 have hV : ∀ x, x < W.heap.size -> x ≠ a.sB -> V.heap[x]? = W.heap[x]? := fun x hx h => hc.block x hx (by simpa using h)
 have hk : ∀ x, x ≠ a.b -> (V.setCell (aV a.b 5) (.slice (some (aV g 0)) (it.stops.length + 1) c)).heap[x]? = V.heap[x]? := fun x h => Below.heap_setCell _ _ _ _ h
 have hg : ∀ x, x < W.heap.size -> x ≠ a.sB -> g ≠ x := fun x hx h e => by
  rcases hat with h2 | h2
  ·exact h (e.symm.trans h2)
  ·omega
 have eb : ∀ x, a.eA.map (·.block) = some x -> x < W.heap.size := fun x hx => lt x (aP _ (by rw [hx]; simp))
 have vb : V.heap[a.b]? = some _ := (hV _ (m4 _ (by simp)) b_s).trans l3
 refine ⟨⟨⟨lv, l1, l2, ?_⟩, hi.ge, ?_, cM hi.si ((hk _ b_n.symm).trans (hV _ (m4 _ (by simp)) s_n.symm)), cM hi.la ((hk _ b_l.symm).trans (hV _ (m4 _ (by simp)) s_l.symm)), kN hi.se (fun x hx => (hk _ (n4 x hx).1).trans (hV _ (eb x hx) (n4 x hx).2.1))⟩, (hc.mono (fun x hx => by simp at hx; subst hx; simp [ItA.blks])).set _ _ (.inl (by simp [ItA.blks])), fun x hx => ?_, ?_, rfl⟩
 ·rw [bE vb 5 _]
  simp
 ·have := cM own (hk g (hg _ (m4 _ (by simp)) b_s))
  simpa using this
 ·unfold ItA.blks at hx ⊢
  simp at hx ⊢
  rcases hx with h | rfl | h
  ·exact .inl (.inl h)
  ·rcases hat with e | e
   ·exact .inl (.inr (.inl e))
   ·exact .inr e
  ·exact .inl (.inr (.inr h))
 ·refine qC ⟨(hg _ (m4 _ (by simp)) b_s).symm, b_n, b_l, hg _ (m4 _ (by simp)) s_n.symm, hg _ (m4 _ (by simp)) s_l.symm, n_l⟩ (fun x hx => ?_)
  obtain ⟨y1, y2, y3, y4⟩ := n4 x hx
  exact ⟨y1, (hg _ (eb x hx) y2).symm, y3, y4⟩
theorem gone_eq (n : Net) (it : Itm) : cw n it = { cF it with stops := (cF it).stops ++ [⟨(af n it.line.toNat).to, it.leave + (af n it.line.toNat).travel, -1, -1⟩], seals := it.seals ++ [cZ it.line it.leave], holds := 0 } := rfl
def PW (w : World) : Prop := ∃ t fr, w.heap[1]? = some (.cells (Lib.pow10Tab.map fun z => Value.int .u64 z).toArray t fr)
theorem PW.below {w w' : World} (h : PW w) (hb : Below w.heap.size w w') : PW w' := by
 obtain ⟨t, fr, h⟩ := h
 exact ⟨t, fr, (hb.block 1 (aa h)).trans h⟩
theorem mF (n : Int) (w : World) (hn : I64 n) (hp : PW w) : Calls Tryz.prog 65 #[iV n] w fun e w' => e = .returned (sV (Lib.itoa n)) /\ Below w.heap.size w w' := by
 obtain ⟨t, fr, h⟩ := hp
 refine (Tryz.strconv_Itoa n hn.1 hn.2 w ?_).mono ?_
 ·unfold Lib.TabIs World.var?
  rw [show Tryz.prog.globalNamed _ = some 1 by kernel_rfl]
  show (match w.heap[1]? with | some (.cells cs _ _) => some cs | _ => none) = _
  rw [h]
 ·rintro e w' ⟨rfl, k, os, rfl⟩
  exact ⟨rfl, Go.Lib.below_grow _ _ (aH _) k os⟩
theorem WdH.chg {w W W' : World} {n : Net} {nx : List NsC} {nxA : Option Addr} {nxC : Nat} {h : Hst} {A : HsA} {S : List Nat} (H : WdH w W n nx nxA nxC h A) (hc : bz S W W') (hs : ∀ b ∈ A.all, b ∉ S) (hb : ∀ b ∈ S, w.heap.size <= b) : WdH w W' n nx nxA nxC h A :=
 ⟨H.old, H.hs.chg hc hs, H.bel.trans (hc.below H.bel.size hb)⟩
theorem nR {n : Net} {nx : List NsC} {canc : List Int} {dst : Int} {it : Itm} (hG : cY n) (hF : bi n nx) (hi : fL n it) (hd : 0 <= dst /\ dst < n.offs.length) (h : dF n nx canc dst it) : -1 <= it.line /\ (0 <= it.line -> it.line < n.lins.length /\ 0 <= it.leave /\ it.leave <= 2090000) := by
 refine ⟨?_, fun hl => ?_⟩
 ·rcases dP n nx canc dst it with e | ⟨l, v, e, g⟩
  ·rw [h.1, e]
   exact Int.le_refl _
  ·rw [h.1, e]
   have := g.ge
   show -1 <= l
   omega
 ·obtain ⟨a1, -, -, a4, a5, -⟩ := mJ hG hF hi hd h hl
  exact ⟨a1, a4, a5⟩
theorem gu.dst {n : Net} {nx : List NsC} {canc : List Int} {before : Int} {all : List Itm} {k f : Nat} {its : List Itm} (h : gu n nx canc before all k f its) (hd : ∀ y ∈ all, 0 <= bw all y /\ bw all y < n.offs.length) {x : Itm} (hx : x ∈ its) : 0 <= bw all x /\ bw all x < n.offs.length := by
 obtain ⟨i, hi⟩ := List.getElem?_of_mem hx
 obtain ⟨y, h1, h2⟩ := h.same i x hi
 rw [nj h2]
 exact hd y (aF h1)
theorem gu.rng {n : Net} {nx : List NsC} {canc : List Int} {before : Int} {all : List Itm} {k f : Nat} {its : List Itm} (hG : cY n) (hF : bi n nx) (h : gu n nx canc before all k f its) (hd : ∀ y ∈ all, 0 <= bw all y /\ bw all y < n.offs.length) {x : Itm} (hx : x ∈ its) : -1 <= x.line /\ (0 <= x.line -> x.line < n.lins.length /\ 0 <= x.leave /\ x.leave <= 2090000) :=
 nR hG hF (h.ok x hx).1 (h.dst hd hx) (h.ok x hx).2
structure PrS (w : World) (X Z : Nat) (n : Net) (nx : List NsC) (nxA : Option Addr) (nxC : Nat) (h : Hst) (A : HsA) (before : Int) (k f : Nat) (V : World) (its : List Itm) (A' : HsA) : Prop where
 wd : WdH w V n nx nxA nxC { h with items := its } A'
 pri : gu n nx h.canc before h.items k f its
 hb : A'.core = A.core
 iB : A'.iB = A.iB
 iC : A'.iC = A.iC
 bs : A'.its.map (·.b) = A.its.map (·.b)
 far : ∀ b ∈ A'.all, b < X ∨ Z + 2 <= b
 p0 : V.heap[X]? = some (.cells #[fH A.hb] 91 (0, 0))
 p1 : V.heap[X + 1]? = some (.cells #[.bool false] 4 (0, 0))
 p2 : V.heap[X + 1 + 1]? = some (.cells #[fH A.hb] 91 (0, 0))
 p3 : V.heap[X + 1 + 1 + 1]? = some (.cells #[iV before] 3 (0, 0))
section
variable {w : World} {X Z : Nat} {n : Net} {nx : List NsC} {nxA : Option Addr} {nxC : Nat} {h : Hst} {A : HsA} {before : Int} {k f : Nat} {V V' : World} {its : List Itm} {A' : HsA}
theorem PrS.chg {S : List Nat} (H : PrS w X Z n nx nxA nxC h A before k f V its A') (hc : bz S V V') (hs : ∀ b ∈ A'.all, b ∉ S) (hb : ∀ b ∈ S, w.heap.size <= b) (hx : ∀ b, X <= b -> b < X + 4 -> b ∉ S) : PrS w X Z n nx nxA nxC h A before k f V' its A' :=
 ⟨H.wd.chg hc hs hb, H.pri, H.hb, H.iB, H.iC, H.bs, H.far, (hc.block _ (aa H.p0) (hx _ (by omega) (by omega))).trans H.p0, (hc.block _ (aa H.p1) (hx _ (by omega) (by omega))).trans H.p1, (hc.block _ (aa H.p2) (hx _ (by omega) (by omega))).trans H.p2, (hc.block _ (aa H.p3) (hx _ (by omega) (by omega))).trans H.p3⟩
theorem PrS.below (H : PrS w X Z n nx nxA nxC h A before k f V its A') (hb : Below V.heap.size V V') : PrS w X Z n nx nxA nxC h A before k f V' its A' :=
 H.chg (S := []) (bz.of_below hb) (fun _ _ => by simp) (fun _ h => by cases h) (fun _ _ _ => by simp)
theorem PrS.grown {r : Nat} (H : PrS w X Z n nx nxA nxC h A before k f V its A') (hg : V.grownBy V' (some r)) (hr : r = Z ∨ r = Z + 1) (hZ : X + 4 <= Z) (hw : w.heap.size <= X) : PrS w X Z n nx nxA nxC h A before k f V' its A' :=
 H.chg (S := [r]) (bz.of_grown hg (fun x hx => by cases hx; simp)) (fun b hb h2 => by
  have := H.far b hb
  have e := aR.1 h2
  omega) (fun b hb => by have e := aR.1 hb; omega) (fun b h1 h2 h3 => by
  have e := aR.1 h3
  omega)
theorem PrS.at_ (H : PrS w X Z n nx nxA nxC h A before k f V its A') (hk : k < h.items.length) : ∃ it a, its[k]? = some it /\ A'.its[k]? = some a /\ (A.its.map (·.b))[k]? = some a.b /\ cD w.heap.size V it a /\ a.blks.Nodup := by
 have hl : k < its.length := by rw [H.pri.len]; exact hk
 have hl2 : k < A'.its.length := by have := H.wd.hs.len; simp only at this; omega
 refine ⟨its[k], A'.its[k], aD hl, aD hl2, ?_, H.wd.hs.item k _ _ (aD hl) (aD hl2), (H.wd.hs.blks (aD hl2)).1⟩
 rw [<- H.bs, aS, aD hl2]
 rfl
theorem PrS.view (hr : ∀ x ∈ its, I64 x.line) (H : PrS w X Z n nx nxA nxC h A before k f V its A') : DpV A.hb (X + 1 + 1) (X + 1 + 1 + 1) before A.iB A.iC (A.its.map (·.b)) k V := by
 have hlen : (A.its.map (·.b)).length = its.length := by rw [<- H.bs, List.length_map]; exact H.wd.hs.len
 refine ⟨aA 0 H.p2, aA 0 H.p3, ?_, ?_, fun b hb => ?_⟩
 ·have := H.wd.hs.cell (i := 7) rfl
  rw [show A'.hb = A.hb from congrArg (·.1) H.hb, H.iB, H.iC] at this
  rw [hlen]
  exact this
 ·have h1 := cE H.wd.hs.row
  have e : (A'.its.map fun a => Value.pointer (some (aV a.b 0))) = (A.its.map (·.b)).map fH := by rw [<- H.bs, List.map_map]; rfl
  rw [e, H.iB] at h1
  exact h1
 ·obtain ⟨hk, -⟩ := aE.1 hb
  obtain ⟨it, a, h1, h2, h3, h4, -⟩ := H.at_ (by rw [hlen, H.pri.len] at hk; exact hk)
  rw [hb] at h3
  cases h3
  obtain ⟨lv, l1, l2, l3⟩ := h4.cells
  exact ⟨it.line, lv, hr it (aF h1), l1, aA 11 l3, aA 12 l3⟩
end
abbrev lnO (ln : Lin) : Obj := .cells #[sV ln.name, iV ln.frm, iV ln.to, iV ln.at_, iV ln.travel, iV ln.load] 52 (0, 0)
structure MdS (w : World) (X T : Nat) (n : Net) (nx : List NsC) (nxA : Option Addr) (nxC : Nat) (h : Hst) (A : HsA) (before : Int) (ln : Lin) (k : Nat) (V : World) (its : List Itm) (A' : HsA) (a : ItA) (V' : World) (it' : Itm) (a' : ItA) : Prop where
 wd : WdH w V' n nx nxA nxC { h with items := its.set k it' } { A' with its := A'.its.set k a' }
 p0 : V'.heap[X]? = some (.cells #[fH A.hb] 91 (0, 0))
 p1 : V'.heap[X + 1]? = some (.cells #[.bool false] 4 (0, 0))
 p2 : V'.heap[X + 1 + 1]? = some (.cells #[fH A.hb] 91 (0, 0))
 p3 : V'.heap[X + 1 + 1 + 1]? = some (.cells #[iV before] 3 (0, 0))
 pT : V'.heap[T]? = some (lnO ln)
 blk : ∀ b ∈ a'.blks, b ∈ a.blks ∨ T < b
 chg : bz a.blks V V'
 same : a'.b = a.b
section
variable {w : World} {X T : Nat} {n : Net} {nx : List NsC} {nxA : Option Addr} {nxC : Nat} {h : Hst} {A : HsA} {before : Int} {ln : Lin} {k : Nat} {V V' V'' : World} {its : List Itm} {A' : HsA} {a a' a'' : ItA} {it' it'' : Itm}
theorem MdS.in_ (M : MdS w X T n nx nxA nxC h A before ln k V its A' a V' it' a') (hk : k < its.length) (hk2 : k < A'.its.length) : cD w.heap.size V' it' a' /\ a'.blks.Nodup := by
 have g1 : (its.set k it')[k]? = some it' := by rw [List.getElem?_set, if_pos rfl, if_pos hk]
 have g2 : (A'.its.set k a')[k]? = some a' := by rw [List.getElem?_set, if_pos rfl, if_pos hk2]
 exact ⟨M.wd.hs.item k _ _ g1 g2, (M.wd.hs.blks g2).1⟩
theorem MdS.below (M : MdS w X T n nx nxA nxC h A before ln k V its A' a V' it' a') (hb : Below V'.heap.size V' V'') : MdS w X T n nx nxA nxC h A before ln k V its A' a V'' it' a' :=
 ⟨M.wd.below hb, (hb.block _ (aa M.p0)).trans M.p0, (hb.block _ (aa M.p1)).trans M.p1, (hb.block _ (aa M.p2)).trans M.p2, (hb.block _ (aa M.p3)).trans M.p3, (hb.block _ (aa M.pT)).trans M.pT, M.blk, M.chg.trans (bz.of_below (S := []) hb) (fun _ h => by cases h), M.same⟩
theorem MdS.step (M : MdS w X T n nx nxA nxC h A before ln k V its A' a V' it' a') (hk : k < its.length) (hk2 : k < A'.its.length) (hs : dS w.heap.size V' V'' a' a'' it'') (hp : it''.post = it'.post) (hT : T = V.heap.size) (hX : X + 4 <= T) (far : ∀ b ∈ a.blks, b < T /\ (b < X ∨ X + 4 <= b)) : MdS w X T n nx nxA nxC h A before ln k V its A' a V'' it'' a'' := by
 have g1 : (its.set k it')[k]? = some it' := by rw [List.getElem?_set, if_pos rfl, if_pos hk]
 have g2 : (A'.its.set k a')[k]? = some a' := by rw [List.getElem?_set, if_pos rfl, if_pos hk2]
 have w1 := M.wd.upd g1 g2 hs hp
 dsimp only at w1
 rw [List.set_set, List.set_set] at w1
 have hno : ∀ b, (X <= b /\ b < X + 4) ∨ b = T -> b ∉ a'.blks := fun b hb h => by
  rcases M.blk b h with h2 | h2
  ·have := far b h2
   omega
  ·omega
 have hTl := aa M.pT
 refine ⟨w1, (hs.chg.block _ (aa M.p0) (hno _ (.inl (by omega)))).trans M.p0, (hs.chg.block _ (aa M.p1) (hno _ (.inl (by omega)))).trans M.p1, (hs.chg.block _ (aa M.p2) (hno _ (.inl (by omega)))).trans M.p2, (hs.chg.block _ (aa M.p3) (hno _ (.inl (by omega)))).trans M.p3, (hs.chg.block _ hTl (hno _ (.inr rfl))).trans M.pT, fun b hb => ?_, M.chg.trans hs.chg (fun b hb => ?_), hs.same.trans M.same⟩
 ·rcases hs.new_ b hb with e | e
  ·exact M.blk b e
  ·exact .inr (by omega)
 ·rcases M.blk b hb with e | e
  ·exact .inl e
  ·exact .inr (by omega)
end
theorem rC {l : List St} (h : l ≠ []) : aj l ∈ l := by
 unfold aj
 rw [List.getLastD_eq_getLast?, List.getLast?_eq_some_getLast h]
 exact List.getLast_mem h
theorem ut {n : Net} {nx : List NsC} {before : Int} {h : Hst} {k f : Nat} {its : List Itm} {it : Itm} (hP : gu n nx h.canc before h.items k f its) (hD : ∀ y ∈ h.items, jl n h y) (hx : its[k]? = some it) (hg : fL n (cw n it)) :
  jl n { h with items := its.set k (cw n it) } (cw n it) /\ bw (its.set k (cw n it)) (cw n it) = bw h.items it := by
 obtain ⟨y, hy, hs⟩ := hP.same k it hx
 have hd := hD y (aF hy)
 have hps : (its.set k (cw n it)).map (·.post) = h.items.map (·.post) := (fS (items := its) (k := k) (it := it) (it' := cw n it) hx rfl).trans hP.posts
 have hto : bw (its.set k (cw n it)) (cw n it) = bw h.items it := ew hps _
 have hne := fP hg.path
 have hl : aj (cw n it).stops ∈ (cw n it).stops := rC hne
 have ho := hg.offs _ hl
 have hc : bq (cw n it) = bq y := by
  show bq it = bq y
  unfold bq
  rw [hs.labs]
 have hq : gP (cw n it) = gP y := by
  show gP it = gP y
  unfold gP
  rw [hs.since]
 have hla : (cw n it).labs = y.labs := hs.labs
 have hsi : (cw n it).since = y.since := hs.since
 refine ⟨⟨⟨aL.2 hne, by have := hg.len; omega⟩, ⟨ho.1, ho.2.1⟩, ⟨ho.2.2.1, by omega⟩, by rw [hla]; exact hd.la, by rw [hsi]; exact hd.si, by rw [hq]; exact hd.sr, ⟨by rw [hc]; exact hd.ca.1, by rw [hc]; exact kT hps hd.ca.2⟩, ?_, Nat.zero_le _⟩, hto⟩
 rw [hto, nj hs]
 exact hd.ds
section
open Go.Maps (Keyed)
def uO (hb : Nat) (k : Int) : Option Value :=
 if k = 1 then some (.func (.func 94) #[.pointer (some (aV hb 0))] #[])
 else if k = 2 then some (.func (.func 95) #[.pointer (some (aV hb 0))] #[])
 else if k = 3 then some (.func (.func 96) #[.pointer (some (aV hb 0))] #[])
 else if k = 4 then some (.func (.func 97) #[.pointer (some (aV hb 0))] #[])
 else if k = 5 then some (.func (.func 98) #[.pointer (some (aV hb 0))] #[])
 else none
theorem iO {n : Int} (h1 : -1000000 <= n) (h2 : n <= 1000000) : I64 n := ⟨by omega, by omega⟩
theorem gz (t : TypeId) (w : World) : (Instr.makeMap t none).run Tryz.prog w = .ok (.map (some w.heap.size)) (w.alloc (.map #[] 0)) := rfl
theorem qH (hb : Nat) (w : World) : Calls Tryz.prog 41 #[.pointer (some (aV hb 0))] w fun e w' => e = .returned (.map (some w.heap.size)) /\ dG Tryz.prog 3 w' w.heap.size 5 (mH (uO hb)) /\ Below w.heap.size w w' := by
 have hmf : ∀ (fn : Fn) (first cap : Array Value) (w : World), (Instr.makeFunc fn first cap).run Tryz.prog w = .ok (.func fn first cap) w := fun _ _ _ _ => rfl
 obtain ⟨W1, r1, m1, g1⟩ := (dG.new w Tryz.prog 3).store ky Tryz.underlying97 (dD 1 (iO (by decide) (by decide))) (.func (.func 94) #[.pointer (some (aV hb 0))] #[])
 obtain ⟨W2, r2, m2, g2⟩ := m1.store ky Tryz.underlying97 (dD 2 (iO (by decide) (by decide))) (.func (.func 95) #[.pointer (some (aV hb 0))] #[])
 obtain ⟨W3, r3, m3, g3⟩ := m2.store ky Tryz.underlying97 (dD 3 (iO (by decide) (by decide))) (.func (.func 96) #[.pointer (some (aV hb 0))] #[])
 obtain ⟨W4, r4, m4, g4⟩ := m3.store ky Tryz.underlying97 (dD 4 (iO (by decide) (by decide))) (.func (.func 97) #[.pointer (some (aV hb 0))] #[])
 obtain ⟨W5, r5, m5, g5⟩ := m4.store ky Tryz.underlying97 (dD 5 (iO (by decide) (by decide))) (.func (.func 98) #[.pointer (some (aV hb 0))] #[])
 have hB : Below w.heap.size w W5 := by
  have h0 : Below w.heap.size w (w.alloc (.map #[] 0)) := ba w _
  have up : ∀ {a b : World}, Below w.heap.size w a -> a.grownBy b (some w.heap.size) -> Below w.heap.size w b := fun h g => h.grown g h.size (fun x hx => by cases hx; exact aH _)
  exact up (up (up (up (up h0 g1) g2) g3) g4) g5
 have hM : dG Tryz.prog 3 W5 w.heap.size 5 (mH (uO hb)) := by
  refine m5.eq ?_
  rw [mG, dM, dM, dM, dM, dM]
  congr 1
  funext k
  unfold uO
  by_cases h1 : k = 1
  ·subst h1; rfl
  by_cases h2 : k = 2
  ·subst h2; rfl
  by_cases h3 : k = 3
  ·subst h3; rfl
  by_cases h4 : k = 4
  ·subst h4; rfl
  by_cases h5 : k = 5
  ·subst h5; rfl
  simp [h1, h2, h3, h4, h5]
 have HB := aB hB
 have HM := aB hM
 have hmm := gz 97 w
 clear hB hM m1 m2 m3 m4 m5 g1 g2 g3 g4 g5
 go_enter Tryz.func41, Tryz.ntmps41
 go_wp2
 go_ret
 exact ⟨rfl, HM.out, HB.out⟩
theorem lY (n : Net) (w : World) (hn : bj w n) (hk : KW w) (hs : bM n) :
  Calls Tryz.prog 38 #[bB n] w fun e w' => e = .returned (.bool true) /\ Below w.heap.size w w' := by
 have hb0 := ba w (ae n)
 have hx0 := aC w (ae n)
 have HN : Hid (br (w.alloc (ae n)) w.heap.size n) := ⟨fun i v hv => (aA _ hx0).trans hv, hn.below hb0⟩
 have HK := aB (hk.below hb0)
 have HB0 := aB hb0
 have HS := aB hs
 clear hn hk hs hb0 hx0
 go_enter Tryz.func38, Tryz.ntmps38
 go_upto_region 1 with fail
 change Code.wp _ _ _ _ (w.alloc (ae n))
 generalize (w.alloc (ae n)) = W at *
 obtain ⟨n0, n1, n2, n3, n4, n5⟩ := jA HN.out
 go_wp2_with fail
 refine (gg n _ HN.out.net HK.out).mono ?_
 rintro e w1 ⟨A, m, c, xs, rfl, -, -, hm, -, hb⟩
 obtain rfl : m = 0 := hm.2 HS.out
 have HB := aB hb; clear hb hm n0 n1 n2 n3 n4 n5
 go_wp2
 go_ret
 exact ⟨rfl, bt HB0.out HB.out⟩
end
theorem im (l : List St) (A B : Option Addr) (c c' : Nat) (w : World) (hA : Rd w A (l.flatMap bO)) (hB : Rd w B (l.flatMap bO)) (hl : l.length <= 1000) :
  Calls Tryz.prog 18 #[.slice A l.length c, .slice B l.length c'] w fun e w' => e = .returned (.bool true) /\ Below w.heap.size w w' := by
 have HA := aB hA; clear hA
 have HB := aB hB; clear hB
 have e1 : ((l.length : Int) != (l.length : Int)) = false := by simp
 go_enter Tryz.func18, Tryz.ntmps18
 go_wp2
 go_loopw [5] (fun i wr => ∃ k q : Nat, k <= l.length /\ i = iV k /\ wr = w.drewN q) (fun i _ => l.length + 1 - (intOf i).toNat)
 case atStart => exact ⟨0, 0, by omega, rfl, rfl⟩
 case round =>
  obtain ⟨k, q, hk, rfl, rfl⟩ := hrel
  have k0 : (0 : Int) <= (k : Int) := by omega
  by_cases hlt : k < l.length
  ·have k1 : (k : Int) < (l.length : Int) := by omega
   have hx : l[k]? = some l[k] := aD _
   obtain ⟨-, ab, ao, hAA, -, ha0, hac⟩ := ay cH HA.out hx (by omega)
   obtain ⟨-, bb, bo, hBB, -, hb0, hbc⟩ := ay cH HB.out hx (by omega)
   generalize l[k] = x at *
   have x0 : w.cell? (aV ab (ao + k * 4)) = some (iV x.office) := ha0 _ rfl
   have x1 : w.cell? (aV ab (ao + k * 4 + 1)) = some (iV x.arrive) := hac 1 _ rfl
   have x2 : w.cell? (aV ab (ao + k * 4 + 2)) = some (iV x.depart) := hac 2 _ rfl
   have x3 : w.cell? (aV ab (ao + k * 4 + 3)) = some (iV x.line) := hac 3 _ rfl
   have y0 : w.cell? (aV bb (bo + k * 4)) = some (iV x.office) := hb0 _ rfl
   have y1 : w.cell? (aV bb (bo + k * 4 + 1)) = some (iV x.arrive) := hbc 1 _ rfl
   have y2 : w.cell? (aV bb (bo + k * 4 + 2)) = some (iV x.depart) := hbc 2 _ rfl
   have y3 : w.cell? (aV bb (bo + k * 4 + 3)) = some (iV x.line) := hbc 3 _ rfl
   have HAA := aB hAA
   have HBB := aB hBB
   clear ha0 hac hb0 hbc hx
   subst hAA
   subst hBB
   go_wp2
   go_quiet (fail)
   go_wp2
   go_roundw
   case rel => exact ⟨k + 1, _, by omega, by go_num, rfl⟩
   case measure => simp [intOf]; omega
  ·have k1 : ¬ (k : Int) < (l.length : Int) := by omega
   go_wp2
   go_ret
   exact ⟨rfl, ai (aJ _ _) _⟩
theorem uk (l : List Int) (A B : Option Addr) (c c' : Nat) (w : World) (hA : Rd w A (l.map iV)) (hB : Rd w B (l.map iV)) (hl : l.length <= 1000) :
  Calls Tryz.prog 33 #[.slice A l.length c, .slice B l.length c'] w fun e w' => e = .returned (.bool true) /\ Below w.heap.size w w' := by
 have HA := aB hA; clear hA
 have HB := aB hB; clear hB
 have e1 : ((l.length : Int) != (l.length : Int)) = false := by simp
 go_enter Tryz.func33, Tryz.ntmps33
 go_wp2
 go_loopw [5] (fun i wr => ∃ k q : Nat, k <= l.length /\ i = iV k /\ wr = w.drewN q) (fun i _ => l.length + 1 - (intOf i).toNat)
 case atStart => exact ⟨0, 0, by omega, rfl, rfl⟩
 case round =>
  obtain ⟨k, q, hk, rfl, rfl⟩ := hrel
  have k0 : (0 : Int) <= (k : Int) := by omega
  by_cases hlt : k < l.length
  ·have k1 : (k : Int) < (l.length : Int) := by omega
   have hx : l[k]? = some l[k] := aD _
   obtain ⟨ab, ao, hAA, -, hac⟩ := HA.out.get (i := k) (by simpa using hlt)
   obtain ⟨bb, bo, hBB, -, hbc⟩ := HB.out.get (i := k) (by simpa using hlt)
   have x0 : w.cell? (aV ab (ao + k)) = some (iV l[k]) := hac k _ (by rw [aS, hx]; rfl)
   have y0 : w.cell? (aV bb (bo + k)) = some (iV l[k]) := hbc k _ (by rw [aS, hx]; rfl)
   generalize l[k] = x at *
   have HAA := aB hAA
   have HBB := aB hBB
   clear hac hbc hx
   subst hAA
   subst hBB
   have e2 : (x != x) = false := by simp
   go_wp2
   go_quiet (fail)
   go_wp2
   go_roundw
   case rel => exact ⟨k + 1, _, by omega, by go_num, rfl⟩
   case measure => simp [intOf]; omega
  ·have k1 : ¬ (k : Int) < (l.length : Int) := by omega
   go_wp2
   go_ret
   exact ⟨rfl, ai (aJ _ _) _⟩
theorem nn (l : List (List UInt8)) (A B : Option Addr) (c c' : Nat) (w : World) (hA : Rd w A (l.map sV)) (hB : Rd w B (l.map sV)) (hl : l.length <= 1000) :
  Calls Tryz.prog 25 #[.slice A l.length c, .slice B l.length c'] w fun e w' => e = .returned (.bool true) /\ Below w.heap.size w w' := by
 have HA := aB hA; clear hA
 have HB := aB hB; clear hB
 have e1 : ((l.length : Int) != (l.length : Int)) = false := by simp
 go_enter Tryz.func25, Tryz.ntmps25
 go_wp2
 go_loopw [5] (fun i wr => ∃ k q : Nat, k <= l.length /\ i = iV k /\ wr = w.drewN q) (fun i _ => l.length + 1 - (intOf i).toNat)
 case atStart => exact ⟨0, 0, by omega, rfl, rfl⟩
 case round =>
  obtain ⟨k, q, hk, rfl, rfl⟩ := hrel
  have k0 : (0 : Int) <= (k : Int) := by omega
  by_cases hlt : k < l.length
  ·have k1 : (k : Int) < (l.length : Int) := by omega
   have hx : l[k]? = some l[k] := aD _
   obtain ⟨ab, ao, hAA, -, hac⟩ := HA.out.get (i := k) (by simpa using hlt)
   obtain ⟨bb, bo, hBB, -, hbc⟩ := HB.out.get (i := k) (by simpa using hlt)
   have x0 : w.cell? (aV ab (ao + k)) = some (sV l[k]) := hac k _ (by rw [aS, hx]; rfl)
   have y0 : w.cell? (aV bb (bo + k)) = some (sV l[k]) := hbc k _ (by rw [aS, hx]; rfl)
   generalize l[k] = x at *
   have HAA := aB hAA
   have HBB := aB hBB
   clear hac hbc hx
   subst hAA
   subst hBB
   go_wp2
   go_quiet (fail)
   go_wp2
   go_roundw
   case rel => exact ⟨k + 1, _, by omega, by go_num, rfl⟩
   case measure => simp [intOf]; omega
  ·have k1 : ¬ (k : Int) < (l.length : Int) := by omega
   go_wp2
   go_ret
   exact ⟨rfl, ai (aJ _ _) _⟩
structure Trk where
 post : Pst
 stops : List St
 lost : Bool
 since : List Int
 labs : List (List UInt8)
 seals : List (List UInt8)
 sA : Option Addr
 sC : Nat
 nA : Option Addr
 nC : Nat
 lA : Option Addr
 lC : Nat
 eA : Option Addr
 eC : Nat
def jJ (t : Trk) : List Value := [sV t.post.label, iV t.post.frm, iV t.post.dst, iV t.post.cls, iV t.post.acc, .slice t.sA t.stops.length t.sC, .bool t.lost, .slice t.nA t.since.length t.nC, .slice t.lA t.labs.length t.lC, .slice t.eA t.seals.length t.eC]
abbrev oB (t : Trk) : Value := .agg #[sV t.post.label, iV t.post.frm, iV t.post.dst, iV t.post.cls, iV t.post.acc, .slice t.sA t.stops.length t.sC, .bool t.lost, .slice t.nA t.since.length t.nC, .slice t.lA t.labs.length t.lC, .slice t.eA t.seals.length t.eC]
abbrev gE (t : Trk) : Obj := .cells #[sV t.post.label, iV t.post.frm, iV t.post.dst, iV t.post.cls, iV t.post.acc, .slice t.sA t.stops.length t.sC, .bool t.lost, .slice t.nA t.since.length t.nC, .slice t.lA t.labs.length t.lC, .slice t.eA t.seals.length t.eC] 48
theorem eF (t : Trk) : (jJ t).length = 10 := rfl
structure lK (W : World) (t : Trk) : Prop where
 st : Rd W t.sA (t.stops.flatMap bO)
 si : Rd W t.nA (t.since.map iV)
 la : Rd W t.lA (t.labs.map sV)
 se : Rd W t.eA (t.seals.map sV)
 cap : t.stops.length <= t.sC
theorem lK.below {W W' : World} {t : Trk} (h : lK W t) (hb : Below W.heap.size W W') : lK W' t := ⟨h.st.below hb, h.si.below hb, h.la.below hb, h.se.below hb, h.cap⟩
def Trk.Short (t : Trk) : Prop := t.stops.length <= 1000 /\ t.since.length <= 1000 /\ t.labs.length <= 1000 /\ t.seals.length <= 1000
abbrev mx (n : Net) : Obj := .cells #[.slice n.calA n.cals.length n.calC, .slice n.namA n.names.length n.namC, .slice n.opA n.ops.length n.opC, .slice n.offA n.offs.length n.offC, .slice n.linA n.lins.length n.linC, .slice n.clsA n.clss.length n.clsC] 29
theorem wz (n : Net) (A : Option Addr) (c : Nat) (nx : List NsC) (w : World) (hn : bj w n) (hT : Tab w A nx) (hF : bi n nx) (hx : nx.length <= 1000000) :
  Calls Tryz.prog 39 #[bB n, .slice A nx.length c] w fun e w' => e = .returned (.bool true) /\ Below w.heap.size w w' := by
 have hb0 := ba w (mx n)
 have hx0 := aC w (mx n)
 have hN : br (w.alloc (mx n)) w.heap.size n := ⟨fun i v hv => (aA _ hx0).trans hv, hn.below hb0⟩
 have HT := aB (hT.below hb0)
 have HB0 := aB hb0
 have n3 : (w.alloc (mx n)).cell? (aV w.heap.size 3) = some (.slice n.offA n.offs.length n.offC) := hN.box 3 _ rfl
 have n4 : (w.alloc (mx n)).cell? (aV w.heap.size 4) = some (.slice n.linA n.lins.length n.linC) := hN.box 4 _ rfl
 have HN := aB hN
 have HF := aB ((ep n nx).1 hF)
 have i1 : ((nx.length : Int) != (n.offs.length : Int)) = false := by have := hF.1; simp; omega
 clear hN hT hF hn hb0 hx0
 go_enter Tryz.func39, Tryz.ntmps39
 go_upto_region 1 with fail
 change Code.wp _ _ _ _ (w.alloc (mx n))
 generalize (w.alloc (mx n)) = W at *
 go_wp2
 go_loopw [5, 6, 8, 17, 28, 29, 30] (fun _ _ _ i _ _ _ wr => ∃ k : Nat, k <= nx.length /\ i = iV k /\ wr = W) (fun _ _ _ i _ _ _ _ => nx.length + 1 - (intOf i).toNat)
 case atStart => exact ⟨0, by omega, rfl, rfl⟩
 case round =>
 obtain ⟨k, hk, rfl, rfl⟩ := hrel
 have j0 : (0 : Int) <= (k : Int) := by omega
 by_cases hlt : k < nx.length
 case neg =>
  have j1 : ¬ (k : Int) < (nx.length : Int) := by omega
  go_wp2
  go_ret
  exact ⟨rfl, HB0.out⟩
 have j1 : (k : Int) < (nx.length : Int) := by omega
 obtain ⟨r, hr⟩ : ∃ r, nx[k]? = some r := ⟨_, aD hlt⟩
 have HTr := aB (HT.out.row _ (aF hr))
 obtain ⟨nb, no, hnA, -, hnc⟩ := HT.out.rd.get (i := k) (by rw [List.length_map]; exact hlt)
 have x1 : wr.cell? (aV nb (no + k)) = some (.slice r.A r.ns.length r.c) := hnc k _ (by rw [aS, hr]; rfl)
 have HFr := aB (HF.out.2 k r hr)
 have HNA := aB hnA
 have i2 : ((r.ns.length : Int) != (n.offs.length : Int)) = false := by have := HFr.out.1; simp; omega
 have hrm := HTr.out.2.2
 unfold maxLen at hrm
 have HLT := aB hlt
 clear hnc hr hlt
 subst hnA
 go_wp2
 obtain ⟨wo, hwo⟩ : ∃ wo : World, wo = wr := ⟨_, rfl⟩
 subst hwo
 go_loopw [8, 30] (fun _ i wr => ∃ m : Nat, m <= r.ns.length /\ i = iV m /\ wr = wo) (fun _ i _ => r.ns.length + 1 - (intOf i).toNat)
 case atStart => exact ⟨0, by omega, rfl, rfl⟩
 case round =>
 obtain ⟨m, hm, rfl, rfl⟩ := hrel
 have m0 : (0 : Int) <= (m : Int) := by omega
 by_cases hmt : m < r.ns.length
 case neg =>
  have m1 : ¬ (m : Int) < (r.ns.length : Int) := by omega
  go_wp2
  go_roundw
  case rel => exact ⟨k + 1, by have := HLT.out; omega, by go_num, trivial⟩
  case measure => have := HLT.out; simp [intOf]; omega
 have m1 : (m : Int) < (r.ns.length : Int) := by omega
 have HMT := aB hmt
 obtain ⟨l, hl9⟩ : ∃ l, r.ns[m]? = some l := ⟨_, aD hmt⟩
 obtain ⟨rb, ro, hrA, -, hrc⟩ := HTr.out.1.get (i := m) (by rw [List.length_map]; exact hmt)
 have x2 : wr.cell? (aV rb (ro + m)) = some (iV l) := hrc m _ (by rw [aS, hl9]; rfl)
 have hE := HFr.out.2 l (aF hl9)
 clear hrc hl9 hmt
 rw [hrA] at x1
 have HRA := aB hrA
 rw [hrA]
 clear hrA
 rcases hE with rfl | ⟨hp, hq, hfr⟩
 ·go_wp2
  go_roundw
  case rel => exact ⟨m + 1, by have := HMT.out; omega, by go_num, trivial⟩
  case measure => have := HMT.out; simp [intOf]; omega
 ·obtain ⟨li, rfl⟩ := aN hp
  have hq' : li < n.lins.length := by omega
  obtain ⟨-, lb, lo, hlA, -, -, hlc⟩ := ay bT HN.out.net.lins (bC hq') (by omega)
  have y1 : wr.cell? (aV lb (lo + li * 6 + 1)) = some (iV (af n li).frm) := hlc 1 _ rfl
  have hm3 : ((li : Int) == -1) = false := by rw [aU]; omega
  rw [Int.toNat_natCast] at hfr
  have f1 : ((af n li).frm != (k : Int)) = false := by simpa using hfr
  clear hlc hq' hfr
  rw [hlA] at n4
  go_wp2
  go_roundw
  case rel => exact ⟨m + 1, by have := HMT.out; omega, by go_num, trivial⟩
  case measure => have := HMT.out; simp [intOf]; omega
theorem qe (l : List UInt8) (w : World) (hl : gW l = true) : Calls Tryz.prog 91 #[sV l] w fun e w' => e = .returned (.bool true) /\ Below w.heap.size w w' := by
 unfold gW at hl
 simp only [Bool.and_eq_true, decide_eq_true_eq] at hl
 obtain ⟨⟨h1, h2⟩, h3⟩ := hl
 have e1 : (1 : Int) <= (l.length : Int) := by omega
 have e2 : (l.length : Int) <= 20 := by omega
 have HA := aB (List.all_eq_true.1 h1)
 clear h1
 go_enter Tryz.func91, Tryz.ntmps91
 go_wp2_with (refine ik (by rfl) (.tmp 5) 9 187 5 (by rfl) Tryz.underlying9 Tryz.underlying187 Tryz.underlying5 l (by rfl) ?_; intro A5 c5 w5 hr5 hb5; have HR5 := aB hr5; clear hr5; have HB5 := aB hb5; clear hb5)
 go_loopw [4, 8] (fun _ i wr => ∃ k : Nat, k <= l.length /\ i = iV k /\ wr = w5) (fun _ i _ => l.length + 1 - (intOf i).toNat)
 case atStart => exact ⟨0, by omega, rfl, rfl⟩
 case round =>
 obtain ⟨k, hk, rfl, rfl⟩ := hrel
 have m0 : (0 : Int) <= (k : Int) := by omega
 by_cases hlt : k < l.length
 case neg =>
  have m1 : ¬ (k : Int) < (l.length : Int) := by omega
  go_wp2_with fail
  go_ret
  exact ⟨rfl, HB5.out⟩
 have m1 : (k : Int) < (l.length : Int) := by omega
 have HLT := aB hlt
 obtain ⟨x, hx⟩ : ∃ x, l[k]? = some x := ⟨_, aD hlt⟩
 obtain ⟨rb, ro, hrA, -, hrc⟩ := HR5.out.get (i := k) (by rw [List.length_map]; exact hlt)
 have x2 : wr.cell? (aV rb (ro + k)) = some (bV x) := hrc k _ (by rw [aS, hx]; rfl)
 have hok := HA.out x (aF hx)
 simp only [Bool.or_eq_true, Bool.and_eq_true, decide_eq_true_eq, beq_iff_eq, UInt8.le_iff_toNat_le] at hok
 have hx255 := x.toNat_lt
 have hok2 : (65 <= x.toNat /\ x.toNat <= 90) ∨ (48 <= x.toNat /\ x.toNat <= 57) ∨ x.toNat = 46 := by
  rcases hok with (h | h) | h
  ·exact .inl h
  ·exact .inr (.inl h)
  ·exact .inr (.inr (by rw [h]; rfl))
 clear hok hrc hx hlt
 subst hrA
 rcases hok2 with ⟨a1, a2⟩ | ⟨a1, a2⟩ | a1
 ·have b1 : ¬ ((x.toNat : Int) < 65) := by omega
  have b2 : ¬ ((90 : Int) < (x.toNat : Int)) := by omega
  go_wp2_with fail
  go_roundw
  case rel => exact ⟨k + 1, HLT.out, by go_num, trivial⟩
  case measure => have := HLT.out; simp [intOf]; omega
 ·have b1 : ((x.toNat : Int) < 65) := by omega
  have b2 : ¬ ((x.toNat : Int) < 48) := by omega
  have b3 : ¬ ((57 : Int) < (x.toNat : Int)) := by omega
  go_wp2_with fail
  go_roundw
  case rel => exact ⟨k + 1, HLT.out, by go_num, trivial⟩
  case measure => have := HLT.out; simp [intOf]; omega
 ·have b1 : ((x.toNat : Int) < 65) := by omega
  have b2 : ((x.toNat : Int) < 48) := by omega
  have b3 : ((x.toNat : Int) != 46) = false := by rw [a1]; rfl
  go_wp2_with fail
  go_roundw
  case rel => exact ⟨k + 1, HLT.out, by go_num, trivial⟩
  case measure => have := HLT.out; simp [intOf]; omega
end Go.Proofs.YtpeaiphdkgifaaaGreatDoor
