/- The walks over world.Spot and slices.Backward over stops. The walk -/
import Derived.Test.YtpeaiphdkgifaaaGreatDoorVav
import Derived.Test.YtpeaiphdkgifaaaGreatDoorVbb
import Derived.Test.YtpeaiphdkgifaaaGreatDoorVay
import Derived.Test.YtpeaiphdkgifaaaGreatDoorVax
import Derived.Test.YtpeaiphdkgifaaaGreatDoorVbe
namespace Go.Proofs.YtpeaiphdkgifaaaGreatDoor
open Go.RowKit
set_option maxHeartbeats 20000000
set_option maxRecDepth 100000
section
attribute [local go_sem] Oper.semAt_some
abbrev stV (s : St) : Value := .agg #[iV s.office, iV s.arrive, iV s.depart, iV s.line]
structure BwV (B : Nat) (A : Option Addr) (C : Nat) (l : List St) (W : World) : Prop where
 b : W.cell? (aV B 0) = some (.slice A l.length C)
 rd : Rd W A (l.flatMap bO)
abbrev bwE (l : List St) (k : Nat) : Array Value := #[iV ((l.length : Int) - 1 - k), stV (l.reverse[k]?.getD ⟨0, 0, 0, 0⟩)]
theorem wW (B : Nat) (A : Option Addr) (C : Nat) (l : List St) (hl : l.length <= 1000) :
  SeqB Tryz.prog 108 #[fH B] l.length (bwE l) (BwV B A C l) := by
 intro lp J Jx hJ hV hY W hJ0
 have HJ := aB hJ; clear hJ
 have HV := aB hV; clear hV
 have HY := aB hY; clear hY
 have e1 := (HV.out 0 W hJ0).b
 have HJ0 := aB hJ0
 clear hJ0
 refine callsIn_of_wp Tryz.func108 rfl trivial ?_ rfl
 simp only [Tryz.ntmps108, fH, List.size_toArray, List.length_cons, List.length_nil, Nat.reduceAdd, Nat.reduceSub, Array.replicate_succ, Array.replicate_zero, List.push_toArray, List.append_toArray, List.nil_append, List.cons_append]
 have e9 : wrap64 ((l.length : Int) - 1) = (l.length : Int) - 1 - ((0 : Nat) : Int) := by unfold wrap64; omega
 gi_wp2
 clear e1
 gi_loopw [3] (fun i wr => ∃ k : Nat, k <= l.length /\ i = iV ((l.length : Int) - 1 - k) /\ J k wr) (fun i _ => (intOf i + 1).toNat)
 case atStart => exact ⟨0, Nat.zero_le _, by simp, HJ0.out⟩
 case round =>
  obtain ⟨k, hk, rfl, hjk⟩ := hrel
  have HJK := aB hjk; clear hjk HJ0
  by_cases hkt : k < l.length
  case neg =>
   obtain rfl : k = l.length := by omega
   have e2 : (l.length : Int) - 1 - (l.length : Int) = -1 := by omega
   rw [e2]
   gi_wp2
   refine bodyPost_end (results_none rfl _ _ _) rfl ?_
   exact ⟨⟨_, rfl⟩, .inl HJK.out⟩
  have HKT := aB hkt
  obtain ⟨p, hp⟩ : ∃ p : Nat, (l.length : Int) - 1 - (k : Int) = (p : Int) := ⟨l.length - 1 - k, by omega⟩
  obtain ⟨s, hs⟩ : ∃ s, l[p]? = some s := ⟨_, aD (by omega)⟩
  have hrev : l.reverse[k]? = some s := by
   rw [List.getElem?_reverse hkt, <- hs]
   congr 1
   omega
  have hv := HV.out k wr HJK.out
  have b1 := hv.b
  obtain ⟨hpl, ab, ao, hA, -, z0, zj⟩ := ay cH hv.rd hs (by omega)
  have c0 : wr.cell? (aV ab (ao + p * 4)) = some (iV s.office) := z0 _ rfl
  have c1 : wr.cell? (aV ab (ao + p * 4 + 1)) = some (iV s.arrive) := zj 1 _ rfl
  have c2 : wr.cell? (aV ab (ao + p * 4 + 2)) = some (iV s.depart) := zj 2 _ rfl
  have c3 : wr.cell? (aV ab (ao + p * 4 + 3)) = some (iV s.line) := zj 3 _ rfl
  obtain ⟨fn, tmps, assign, body, hy, hR⟩ := HY.out k _ hkt HJK.out
  simp only [bwE, hrev, Option.getD_some, hp] at hy
  have j0 : (0 : Int) <= (p : Int) := by omega
  have j1 : (p : Int) < (l.length : Int) := by omega
  have HPP : Hid ((l.length : Int) - 1 - (k : Int) = (p : Int)) := hp
  rw [hp]
  rw [hA] at b1
  clear hp hs hrev hv z0 zj hA hpl hkt
  gi_wp2_with fail
  refine hR.mono ?_
  clear hy hR c0 c1 c2 c3 b1
  rintro e W3 (⟨rfl, hj3⟩ | ⟨rfl, hx⟩)
  ·have HJ6 := aB hj3
   clear hj3
   gi_wp2_with fail
   refine ⟨⟨k + 1, HKT.out, ?_, HJ6.out⟩, by simp [intOf]⟩
   have := HPP.out
   congr 1
   omega
  ·have HX := aB hx
   clear hx
   gi_wp2
   refine bodyPost_ret (results_none rfl _ _ _) rfl ?_
   exact ⟨⟨_, rfl⟩, .inr HX.out⟩
def BwR (w : World) (A : Option Addr) (n C : Nat) (e : Ending) (w' : World) : Prop :=
 e = .returned (.func (.func 108) #[] #[fH w.heap.size]) /\ w'.heap[w.heap.size]? = some (.cells #[.slice A n C] 45 (0, 0)) /\ Below w.heap.size w w'
theorem oZ (A : Option Addr) (n C : Nat) (w : World) : Calls Tryz.prog 49 #[.slice A n C] w (BwR w A n C) := by
 have hmf : ∀ (fn : Fn) (first cap : Array Value) (w : World), (Instr.makeFunc fn first cap).run Tryz.prog w = .ok (.func fn first cap) w := fun _ _ _ _ => rfl
 go_enter Tryz.func49, Tryz.ntmps49
 go_wp2
 go_ret
 exact ⟨rfl, aC _ _, ba _ _⟩
theorem jR {t : Int} : ∀ {m : List St} {k : Nat}, (∀ s ∈ m.take k, t < s.arrive) -> me t m = me t (m.drop k)
 | [], k, _ => by simp
 | s :: m, 0, _ => by simp
 | s :: m, k + 1, h => by
  rw [List.drop_succ_cons, <- jR (m := m) (k := k) (fun x hx => h x (by simp [hx])), me, if_pos (h s (by simp))]
def spV (o : Option (Int × Int)) : Value := .tuple #[.agg #[iV (o.getD (0, 0)).1, iV (o.getD (0, 0)).2], .bool o.isSome]
structure SpS (w : World) (X : Nat) (t : Trk) (time : Int) (k : Nat) (V : World) : Prop where
 bel : Below w.heap.size w V
 p0 : V.heap[X]? = some (gE t)
 p1 : V.heap[X + 1]? = some (.cells #[iV time] 3)
 p2 : V.heap[X + 1 + 1]? = some (.cells #[iV 0, iV 0] 67)
 p3 : V.heap[X + 1 + 1 + 1]? = some (.cells #[.bool false] 4)
 p4 : V.heap[X + 1 + 1 + 1 + 1]? = some (.cells #[.slice t.sA t.stops.length t.sC] 45)
 skip : ∀ s ∈ t.stops.reverse.take k, time < s.arrive
theorem SpS.below {w V V' : World} {X : Nat} {t : Trk} {time : Int} {k : Nat} (h : SpS w X t time k V) (hb : Below V.heap.size V V') : SpS w X t time k V' :=
 ⟨h.bel.trans (hb.mono h.bel.size), (hb.block _ (aa h.p0)).trans h.p0, (hb.block _ (aa h.p1)).trans h.p1, (hb.block _ (aa h.p2)).trans h.p2, (hb.block _ (aa h.p3)).trans h.p3, (hb.block _ (aa h.p4)).trans h.p4, h.skip⟩
theorem SpS.grown {w V V' : World} {X r : Nat} {t : Trk} {time : Int} {k : Nat} (h : SpS w X t time k V) (hg : V.grownBy V' (some r)) (hr : w.heap.size <= r /\ X + 5 <= r) : SpS w X t time k V' := by
 have ne : ∀ b, b < X + 5 -> some b ≠ some r := fun b hb e => by have := Option.some.inj e; omega
 exact ⟨h.bel.grown hg h.bel.size (fun x hx => by cases hx; exact hr.1), (hg.block _ (aa h.p0) (ne _ (by omega))).trans h.p0, (hg.block _ (aa h.p1) (ne _ (by omega))).trans h.p1, (hg.block _ (aa h.p2) (ne _ (by omega))).trans h.p2, (hg.block _ (aa h.p3) (ne _ (by omega))).trans h.p3, (hg.block _ (aa h.p4) (ne _ (by omega))).trans h.p4, h.skip⟩
theorem vj {W : World} {X : Nat} {a b : Int} {c : Bool} (h2 : W.heap[X + 1 + 1]? = some (.cells #[iV a, iV b] 67 (0, 0))) (h3 : W.heap[X + 1 + 1 + 1]? = some (.cells #[.bool c] 4 (0, 0))) (tmps : Array Value) (e4 : tmps.getD 4 undef = .pointer (some (aV (X + 1 + 1) 0))) (e5 : tmps.getD 5 undef = .pointer (some (aV (X + 1 + 1 + 1) 0))) :
  (results Tryz.f21 tmps).run Tryz.prog W = .ok (.tuple #[.agg #[iV a, iV b], .bool c]) W := by
 have c0 := cell_of_row W _ 0 _ _ _ h2
 have c1 := cell_of_row W _ 1 _ _ _ h2
 have c2 := cell_of_row W _ 0 _ _ _ h3
 have e1 : (loadVar 67 (aV (X + 1 + 1) 0)).run Tryz.prog W = .ok (.agg #[iV a, iV b]) W := by
  simp [loadVar, go_sem, c0, c1]
 have e2 : (loadVar 4 (aV (X + 1 + 1 + 1) 0)).run Tryz.prog W = .ok (.bool c) W := by
  simp [loadVar, go_sem, c2]
 have e4' : tmps[4]?.getD undef = .pointer (some (aV (X + 1 + 1) 0)) := by simpa using e4
 have e5' : tmps[5]?.getD undef = .pointer (some (aV (X + 1 + 1 + 1) 0)) := by simpa using e5
 simp [results, Tryz.results21, asAddr, e4', e5', e1, e2]
theorem ke {V : World} {X : Nat} {p q a b : Int} {r c : Bool} (h2 : V.heap[X + 1 + 1]? = some (.cells #[iV p, iV q] 67 (0, 0))) (h3 : V.heap[X + 1 + 1 + 1]? = some (.cells #[.bool r] 4 (0, 0))) :
  ((((V.setCell (aV (X + 1 + 1) 0) (iV a)).setCell (aV (X + 1 + 1) 1) (iV b)).setCell (aV (X + 1 + 1 + 1) 0) (.bool c)).heap[X + 1 + 1]? = some (.cells #[iV a, iV b] 67 (0, 0))) /\
  ((((V.setCell (aV (X + 1 + 1) 0) (iV a)).setCell (aV (X + 1 + 1) 1) (iV b)).setCell (aV (X + 1 + 1 + 1) 0) (.bool c)).heap[X + 1 + 1 + 1]? = some (.cells #[.bool c] 4 (0, 0))) /\
  (∀ y, y ≠ X + 1 + 1 -> y ≠ X + 1 + 1 + 1 -> (((V.setCell (aV (X + 1 + 1) 0) (iV a)).setCell (aV (X + 1 + 1) 1) (iV b)).setCell (aV (X + 1 + 1 + 1) 0) (.bool c)).heap[y]? = V.heap[y]?) := by
 have g2 := bE (bE h2 0 (iV a)) 1 (iV b)
 have g3 : ((V.setCell (aV (X + 1 + 1) 0) (iV a)).setCell (aV (X + 1 + 1) 1) (iV b)).heap[X + 1 + 1 + 1]? = some (.cells #[.bool r] 4 (0, 0)) :=
  (Below.heap_setCell _ _ _ _ (by show X + 1 + 1 + 1 ≠ X + 1 + 1; omega)).trans ((Below.heap_setCell _ _ _ _ (by show X + 1 + 1 + 1 ≠ X + 1 + 1; omega)).trans h3)
 refine ⟨(Below.heap_setCell _ _ _ _ (by show X + 1 + 1 ≠ X + 1 + 1 + 1; omega)).trans g2, bE g3 0 _, fun y h1 h2 => ?_⟩
 exact (Below.heap_setCell _ _ _ _ (by show y ≠ X + 1 + 1 + 1; exact h2)).trans ((Below.heap_setCell _ _ _ _ (by show y ≠ X + 1 + 1; exact h1)).trans (Below.heap_setCell _ _ _ _ (by show y ≠ X + 1 + 1; exact h1)))
theorem kg {w V : World} {X : Nat} {a b c : Value} (h : Below w.heap.size w V) (hX : w.heap.size = X) : Below w.heap.size w (((V.setCell (aV (X + 1 + 1) 0) a).setCell (aV (X + 1 + 1) 1) b).setCell (aV (X + 1 + 1 + 1) 0) c) :=
 ((h.setCell (p := (aV (X + 1 + 1) 0)) (by show w.heap.size <= X + 1 + 1; omega) _).setCell (p := (aV (X + 1 + 1) 1)) (by show w.heap.size <= X + 1 + 1; omega) _).setCell (p := (aV (X + 1 + 1 + 1) 0)) (by show w.heap.size <= X + 1 + 1 + 1; omega) _
abbrev gF (t : Trk) (time : Int) : List Obj := [gE t, .cells #[iV time] 3, .cells #[iV 0, iV 0] 67, .cells #[.bool false] 4]
theorem pG (t : Trk) (time : Int) (w : World) (hT : lK w t) (hl : t.stops.length <= 1000) :
  Calls Tryz.prog 21 #[oB t, iV time] w fun e w' => e = .returned (spV (nr t.stops time)) /\ Below w.heap.size w w' := by
 refine jg Tryz.func21 rfl ?_
 simp only [Tryz.ntmps21, List.size_toArray, List.length_cons, List.length_nil, Nat.reduceAdd, Nat.reduceSub, Array.replicate_succ, Array.replicate_zero, List.push_toArray, List.append_toArray, List.nil_append, List.cons_append]
 refine cN (dy ?_)
 go_wp2
 refine cN ?_
 refine cN (dy ?_)
 have hb5 := bv (gF t time) w
 have hg5 := bN (gF t time) w
 have hz5 : (au w (gF t time)).heap.size = w.heap.size + 1 + 1 + 1 + 1 := eH (gF t time) w
 have q0 : (au w (gF t time)).heap[w.heap.size]? = some (gE t) := hg5 0 _ rfl
 have q1 : (au w (gF t time)).heap[w.heap.size + 1]? = some (.cells #[iV time] 3) := hg5 1 _ rfl
 have q2 : (au w (gF t time)).heap[w.heap.size + 1 + 1]? = some (.cells #[iV 0, iV 0] 67) := hg5 2 _ rfl
 have q3 : (au w (gF t time)).heap[w.heap.size + 1 + 1 + 1]? = some (.cells #[.bool false] 4) := hg5 3 _ rfl
 change Code.wp _ _ _ _ (au w (gF t time))
 generalize au w (gF t time) = V1 at *
 obtain ⟨X, hX⟩ : ∃ X, w.heap.size = X := ⟨_, rfl⟩
 have HXW := aB hX
 rw [hX] at q0 q1 q2 q3 hz5 ⊢
 have c1 : V1.cell? (aV X 5) = some (.slice t.sA t.stops.length t.sC) := aA 5 q0
 have HQ := aB (And.intro q0 (And.intro q1 (And.intro q2 q3)))
 have HB := aB hb5
 have HTR := aB hT
 have HL := aB hl
 clear hX hb5 hg5 q0 q1 q2 q3 hT hl
 go_wp2_with fail
 refine (oZ t.sA t.stops.length t.sC V1).mono ?_
 rintro e V2 ⟨rfl, hbx, hb⟩
 rw [hz5] at hbx ⊢
 have hz6 : X + 5 <= V2.heap.size := aa hbx
 have HS0 : Hid (SpS w X t time 0 V2) := ⟨HB.out.trans (hb.mono HB.out.size), (hb.block _ (aa HQ.out.1)).trans HQ.out.1, (hb.block _ (aa HQ.out.2.1)).trans HQ.out.2.1, (hb.block _ (aa HQ.out.2.2.1)).trans HQ.out.2.2.1, (hb.block _ (aa HQ.out.2.2.2)).trans HQ.out.2.2.2, hbx, by simp⟩
 have HZ := aB hz6
 clear hbx hb hz5 c1 hz6
 go_wp2_with fail
 have HSEQ := aB (wW (X + 1 + 1 + 1 + 1) t.sA t.sC t.stops HL.out)
 obtain ⟨Z, hZ⟩ : ∃ Z, V2.heap.size = Z := ⟨_, rfl⟩
 have HZE := aB hZ
 rw [hZ] at HZ
 clear hZ
 refine jM ?_
 refine wp_seqB (gf := 108) (lb := #[fH (X + 1 + 1 + 1 + 1)]) (by rfl) (fun _ _ => rfl) HSEQ.out (fun _ => rfl)
  (fun k V => SpS w X t time k V)
  (fun V => Below w.heap.size w V /\ ∃ x, nr t.stops time = some x /\ V.heap[X + 1 + 1]? = some (.cells #[iV x.1, iV x.2] 67) /\ V.heap[X + 1 + 1 + 1]? = some (.cells #[.bool true] 4))
  (fun k V V' r hP hg hr => hP.grown hg (by have := HXW.out; have := HZ.out; have := HZE.out; omega))
  (fun V V' r ⟨h1, x, h2, h3, h4⟩ hg hr => ⟨h1.grown hg h1.size (fun y hy => by cases hy; have := HXW.out; have := HZ.out; have := HZE.out; omega), x, h2, (hg.block _ (aa h3) (fun e => by have := Option.some.inj e; have := HZ.out; have := HZE.out; omega)).trans h3, (hg.block _ (aa h4) (fun e => by have := Option.some.inj e; have := HZ.out; have := HZE.out; omega)).trans h4⟩)
  (fun k V V' hP hb => hP.below hb)
  (fun k V hP => ⟨aA 0 hP.p4, HTR.out.st.below hP.bel⟩)
  HS0.out
  (fun k W => { tmps := #[oB t, iV time, .pointer (some (aV X 0)), .pointer (some (aV (X + 1) 0)), .pointer (some (aV (X + 1 + 1) 0)), .pointer (some (aV (X + 1 + 1 + 1) 0)), undef, .pointer (some (aV W.heap.size 0)), .pointer (some (aV X 5)), .slice t.sA t.stops.length t.sC, .func (.func 108) #[] #[fH (X + 1 + 1 + 1 + 1)], iV ((t.stops.length : Int) - 1 - k), stV (t.stops.reverse[k]?.getD ⟨0, 0, 0, 0⟩), undef, undef, undef, undef, undef, undef, undef, undef, undef, undef, undef, undef, undef, undef, undef, undef, undef, undef, undef, undef], defers := [] })
  (fun k W => W.alloc (.cells #[iV (t.stops.reverse[k]?.getD ⟨0, 0, 0, 0⟩).office, iV (t.stops.reverse[k]?.getD ⟨0, 0, 0, 0⟩).arrive, iV (t.stops.reverse[k]?.getD ⟨0, 0, 0, 0⟩).depart, iV (t.stops.reverse[k]?.getD ⟨0, 0, 0, 0⟩).line] 50)) (fun k W => ba _ _) ?assign ?body ?stop ?done
 case assign =>
  intro l k W' K hK
  gi_wp2
  exact hK
 case stop =>
  rintro V ⟨h1, x, h2, h3, h4⟩ hd
  refine wpIn_ret ?_
  refine ⟨by simp, .inl ⟨_, _, rfl, run_takeDeferred hd, ?_⟩⟩
  have hz := HZ.out
  have hze := HZE.out
  have h5 := (World.putObj_heap_other (o := .deferred none) (show X + 1 + 1 ≠ V2.heap.size by omega)).trans h3
  have h6 := (World.putObj_heap_other (o := .deferred none) (show X + 1 + 1 + 1 ≠ V2.heap.size by omega)).trans h4
  refine ⟨_, vj h5 h6 _ rfl rfl, ?_, ?_⟩
  ·rw [h2]
   rfl
  ·have h9 := h1.grown (grownBy_putObj' V V2.heap.size (.deferred none)) h1.size (fun y hy => by cases hy; have := HXW.out; omega)
   rw [HXW.out] at h9
   exact h9
 case done =>
  rintro V hP hd
  have b2 : V.cell? (aV (X + 1 + 1) 0) = some (iV 0) := aA 0 hP.p2
  have b2' : V.cell? (aV (X + 1 + 1) 1) = some (iV 0) := aA 1 hP.p2
  have b3 : V.cell? (aV (X + 1 + 1 + 1) 0) = some (.bool false) := aA 0 hP.p3
  have f2 : V.frozen? (aV (X + 1 + 1) 0) = false := ac hP.p2 0
  have f2' : V.frozen? (aV (X + 1 + 1) 1) = false := ac hP.p2 1
  have f3 : V.frozen? (aV (X + 1 + 1 + 1) 0) = false := ac hP.p3 0
  have HP := aB hP
  have HD := aB hd
  clear hP hd
  show j9 _ _ _ _ _ _
  refine cN (dy ?_)
  go_wp2
  refine dy ?_
  go_wp2
  have hz := HZ.out
  have hze := HZE.out
  obtain ⟨k1, k2, k3⟩ := ke (a := 0) (b := 0) (c := false) HP.out.p2 HP.out.p3
  have hd3 := (k3 V2.heap.size (by omega) (by omega)).trans HD.out
  refine ⟨by simp, .inl ⟨_, _, rfl, run_takeDeferred hd3, ?_⟩⟩
  have h5 := (World.putObj_heap_other (o := .deferred none) (show X + 1 + 1 ≠ V2.heap.size by omega)).trans k1
  have h6 := (World.putObj_heap_other (o := .deferred none) (show X + 1 + 1 + 1 ≠ V2.heap.size by omega)).trans k2
  refine ⟨_, vj h5 h6 _ rfl rfl, ?_, ?_⟩
  ·have e : nr t.stops time = none := by
    have := jR HP.out.skip
    rw [List.drop_of_length_le (by simp)] at this
    exact this
   rw [e]
   rfl
  ·have h1 := kg (a := iV 0) (b := iV 0) (c := .bool false) HP.out.bel HXW.out
   have h9 := h1.grown (grownBy_putObj' _ V2.heap.size (.deferred none)) h1.size (fun y hy => by cases hy; have := HXW.out; omega)
   rw [HXW.out] at h9
   exact h9
 case body =>
  rintro l k W V hk hW hsz hg hP
  obtain ⟨s, hs⟩ : ∃ s, t.stops.reverse[k]? = some s := ⟨_, aD (by simpa using hk)⟩
  rw [hs] at hg
  rw [hs]
  simp only [Option.getD_some] at hg ⊢
  have hx : V.heap[W.heap.size]? = some (.cells #[iV s.office, iV s.arrive, iV s.depart, iV s.line] 50 (0, 0)) := (hg.block _ (by simp) (fun e => by have := Option.some.inj e; omega)).trans (aC _ _)
  have s0 : V.cell? (aV W.heap.size 0) = some (iV s.office) := aA 0 hx
  have s1 : V.cell? (aV W.heap.size 1) = some (iV s.arrive) := aA 1 hx
  have s2 : V.cell? (aV W.heap.size 2) = some (iV s.depart) := aA 2 hx
  have s3 : V.cell? (aV W.heap.size 3) = some (iV s.line) := aA 3 hx
  have b1 : V.cell? (aV (X + 1) 0) = some (iV time) := aA 0 hP.p1
  have b2 : V.cell? (aV (X + 1 + 1) 0) = some (iV 0) := aA 0 hP.p2
  have b2' : V.cell? (aV (X + 1 + 1) 1) = some (iV 0) := aA 1 hP.p2
  have b3 : V.cell? (aV (X + 1 + 1 + 1) 0) = some (.bool false) := aA 0 hP.p3
  have f2 : V.frozen? (aV (X + 1 + 1) 0) = false := ac hP.p2 0
  have f2' : V.frozen? (aV (X + 1 + 1) 1) = false := ac hP.p2 1
  have f3 : V.frozen? (aV (X + 1 + 1 + 1) 0) = false := ac hP.p3 0
  obtain ⟨x, hxe⟩ : ∃ x, W.heap.size = x := ⟨_, rfl⟩
  rw [hxe] at s0 s1 s2 s3 ⊢
  have HP := aB hP
  have HSK := aB hs
  have HZX : Hid (Z + 2 <= x /\ x < V.heap.size) := ⟨by have := HZE.out; omega, by have := aa hx; omega⟩
  have hspot : nr t.stops time = me time (t.stops.reverse.drop k) := jR hP.skip
  have hdrop : t.stops.reverse.drop k = s :: t.stops.reverse.drop (k + 1) := by
   obtain ⟨h1, h2⟩ := aE.1 hs
   rw [List.drop_eq_getElem_cons h1, h2]
  rw [hdrop, me] at hspot
  have HSP := aB hspot
  clear hk hW hsz hg hP hs hx hspot hdrop hxe
  refine wpIn_block ?_
  by_cases ha : time < s.arrive
  case pos =>
   gi_wp2_with fail
   have hp := HP.out
   refine ⟨fun b _ => rfl, hp.bel, hp.p0, hp.p1, hp.p2, hp.p3, hp.p4, fun y hy => ?_⟩
   rw [List.take_add_one, HSK.out] at hy
   rcases List.mem_append.1 hy with hy | hy
   ·exact hp.skip y hy
   ·have e : y = s := by simpa using hy
    rw [e]
    exact ha
  case neg =>
   rw [if_neg ha] at HSP
   by_cases hd : s.depart = -1 ∨ time <= s.depart
   case pos =>
    have HSP2 := aB HSP
    clear HSP
    by_cases h1 : s.depart = -1
    ·have e1 : (s.depart == -1) = true := by simpa using h1
     have HD1 := aB h1
     clear h1 hd
     gi_wp2_with fail
     obtain ⟨k1, k2, k3⟩ := ke (a := s.office) (b := (-1)) (c := true) HP.out.p2 HP.out.p3
     refine ⟨fun y hy => k3 y (by have := HZ.out; have := HZE.out; omega) (by have := HZ.out; have := HZE.out; omega), kg HP.out.bel HXW.out, s.office, (-1), ?_, k1, k2⟩
     rw [HSP2.out, if_pos (.inl HD1.out)]
    ·have e1 : (s.depart == -1) = false := by simpa using h1
     have e2 : time <= s.depart := hd.resolve_left h1
     have HD1 := aB hd
     clear h1 hd
     gi_wp2_with fail
     obtain ⟨k1, k2, k3⟩ := ke (a := s.office) (b := (-1)) (c := true) HP.out.p2 HP.out.p3
     refine ⟨fun y hy => k3 y (by have := HZ.out; have := HZE.out; omega) (by have := HZ.out; have := HZE.out; omega), kg HP.out.bel HXW.out, s.office, (-1), ?_, k1, k2⟩
     rw [HSP2.out, if_pos HD1.out]
   case neg =>
    have HSP2 := aB HSP
    have e1 : (s.depart == -1) = false := by simpa using (fun h => hd (.inl h))
    have e2 : ¬ time <= s.depart := fun h => hd (.inr h)
    have HD1 := aB hd
    clear HSP hd
    gi_wp2_with fail
    obtain ⟨k1, k2, k3⟩ := ke (a := (-1)) (b := s.line) (c := true) HP.out.p2 HP.out.p3
    refine ⟨fun y hy => k3 y (by have := HZ.out; have := HZE.out; omega) (by have := HZ.out; have := HZE.out; omega), kg HP.out.bel HXW.out, (-1), s.line, ?_, k1, k2⟩
    rw [HSP2.out, if_neg HD1.out]
end
abbrev lQ (l : List UInt8) (t : Int) : Ded := ⟨1, t, ⟨l, 0, 1, 0, t⟩, [], [], 0⟩
theorem po_res {W : World} {X : Nat} {d : Ded} (h : W.heap[X]? = some (an d)) (tmps : Array Value) (e4 : tmps.getD 4 undef = .pointer (some (aV X 0))) :
  (results Tryz.f32 tmps).run Tryz.prog W = .ok (kF d) W := by
 have c0 := cell_of_row W _ 0 _ _ _ h
 have c1 := cell_of_row W _ 1 _ _ _ h
 have c2 := cell_of_row W _ 2 _ _ _ h
 have c3 := cell_of_row W _ 3 _ _ _ h
 have c4 := cell_of_row W _ 4 _ _ _ h
 have c5 := cell_of_row W _ 5 _ _ _ h
 have c6 := cell_of_row W _ 6 _ _ _ h
 have c7 := cell_of_row W _ 7 _ _ _ h
 have c8 := cell_of_row W _ 8 _ _ _ h
 have c9 := cell_of_row W _ 9 _ _ _ h
 have e1 : (loadVar 44 (aV X 0)).run Tryz.prog W = .ok (kF d) W := by
  simp [loadVar, go_sem, c0, c1, c2, c3, c4, c5, c6, c7, c8, c9]
 have e4' : tmps[4]?.getD undef = .pointer (some (aV X 0)) := by simpa using e4
 simp [results, Tryz.results32, asAddr, e4', e1]
theorem pZ (l : List UInt8) (t : Int) (w : World) : Calls Tryz.prog 32 #[sV l, iV t] w fun e w' => e = .returned (kF (lQ l t)) /\ Below w.heap.size w w' := by
 have hb : Below w.heap.size w w := aJ _ _
 go_enter Tryz.func32, Tryz.ntmps32
 go_wp2
 exact bodyPost_ret (po_res (d := lQ l t) (aC w (an (lQ l t))) _ rfl) rfl ⟨rfl, ba w (an (lQ l t))⟩
def mD (c : UInt8) : Bool := (decide (65 <= c) && decide (c <= 90)) || (decide (48 <= c) && decide (c <= 57)) || c == 46
theorem qA (c : UInt8) (w : World) : Calls Tryz.prog 145 #[bV c] w fun e w' => e = .returned (.bool (decide (65 <= (c.toNat : Int)) && decide ((c.toNat : Int) <= 90))) /\ w' = w := by
 go_enter Tryz.func145, Tryz.ntmps145
 by_cases h1 : 65 <= (c.toNat : Int)
 ·go_wp2_with fail
  go_ret
  exact ⟨by rw [show decide (65 <= (c.toNat : Int)) = true from decide_eq_true h1, Bool.true_and]; rfl, rfl⟩
 ·go_wp2_with fail
  go_ret
  exact ⟨by rw [show decide (65 <= (c.toNat : Int)) = false from decide_eq_false (by omega), Bool.false_and]; rfl, rfl⟩
theorem rk (l : List UInt8) (w : World) (hl : l.length <= maxLen) : Calls Tryz.prog 86 #[sV l] w fun e w' => ij (fun b => b = true -> gW l = true) e /\ w' = w := by
 have HL := aB hl
 unfold maxLen at hl
 go_enter Tryz.func86, Tryz.ntmps86
 go_wp2
 go_loopw [2, 3] (fun _ i wr => ∃ k : Nat, k <= l.length /\ i = iV k /\ wr = w /\ Hid (∀ c ∈ l.take k, mD c = true)) (fun _ i _ => l.length + 1 - (intOf i).toNat)
 case atStart => exact ⟨0, Nat.zero_le _, rfl, rfl, aB (by simp)⟩
 case round =>
 obtain ⟨k, hk, rfl, rfl, HNO⟩ := hrel
 have m0 : (0 : Int) <= (k : Int) := by omega
 by_cases hlt : k < l.length
 case neg =>
  have m1 : ¬ (k : Int) < (l.length : Int) := by omega
  have HKE : Hid (k = l.length) := by show k = l.length; omega
  by_cases g1 : (1 : Int) <= (l.length : Int)
  case neg =>
   go_wp2_with fail
   go_ret
   exact ⟨⟨false, rfl, fun h => by cases h⟩, rfl⟩
  go_wp2_with fail
  go_ret
  refine ⟨⟨_, rfl, fun h => ?_⟩, rfl⟩
  have h2 : (l.length : Int) <= 20 := by simpa using h
  unfold gW
  simp only [Bool.and_eq_true, decide_eq_true_eq]
  refine ⟨⟨List.all_eq_true.2 fun c hc => ?_, by omega⟩, by omega⟩
  exact HNO.out c (by rw [HKE.out, List.take_length]; exact hc)
 have m1 : (k : Int) < (l.length : Int) := by omega
 have HLT := aB hlt
 obtain ⟨x, hx⟩ : ∃ x, l[k]? = some x := ⟨_, aD hlt⟩
 have HX := aB hx
 have hgx : ∀ h, (ByteArray.mk l.toArray)[k]'h = x := fun h => by
  have e : l[k] = x := by
   have := aD hlt
   rw [this] at hx
   exact Option.some.inj hx
  rw [<- e]
  rfl
 clear hlt hk hx
 go_upto_region 4 with fail
 go_wp2_with fail
 refine (qA x wr).mono ?_
 rintro e w2 ⟨rfl, rfl⟩
 have HNX : Hid (mD x = true -> Hid (∀ c ∈ l.take (k + 1), mD c = true)) := fun h c hc => by
  rw [List.take_add_one, HX.out] at hc
  rcases List.mem_append.1 hc with hc | hc
  ·exact HNO.out c hc
  ·have e : c = x := by simpa using hc
   rw [e]
   exact h
 by_cases h1 : 65 <= (x.toNat : Int) /\ (x.toNat : Int) <= 90
 ·rw [show (decide (65 <= (x.toNat : Int)) && decide ((x.toNat : Int) <= 90)) = true by simpa using h1]
  have HC : Hid (mD x = true) := by
   show mD x = true
   unfold mD
   simp only [Bool.or_eq_true, Bool.and_eq_true, decide_eq_true_eq, beq_iff_eq, UInt8.le_iff_toNat_le]
   exact .inl (.inl ⟨by show 65 <= x.toNat; omega, by show x.toNat <= 90; omega⟩)
  clear h1
  go_wp2_with fail
  go_roundw
  case rel => exact ⟨k + 1, HLT.out, by go_num, trivial, HNX.out (HC.out)⟩
  case measure => have := HLT.out; simp [intOf]; omega
 rw [show (decide (65 <= (x.toNat : Int)) && decide ((x.toNat : Int) <= 90)) = false by
  rw [Bool.eq_false_iff]
  intro h
  simp only [Bool.and_eq_true, decide_eq_true_eq] at h
  exact h1 h]
 clear h1
 by_cases h2 : (x.toNat : Int) < 48
 case neg =>
  by_cases h3 : (57 : Int) < (x.toNat : Int)
  case neg =>
   have HC : Hid (mD x = true) := by
    show mD x = true
    unfold mD
    simp only [Bool.or_eq_true, Bool.and_eq_true, decide_eq_true_eq, beq_iff_eq, UInt8.le_iff_toNat_le]
    exact .inl (.inr ⟨by show 48 <= x.toNat; omega, by show x.toNat <= 57; omega⟩)
   go_wp2_with fail
   go_roundw
   case rel => exact ⟨k + 1, HLT.out, by go_num, trivial, HNX.out (HC.out)⟩
   case measure => have := HLT.out; simp [intOf]; omega
  have e4 : ((x.toNat : Int) != 46) = true := by
   have : ¬ (x.toNat : Int) = 46 := by omega
   simpa using this
  go_wp2_with fail
  go_ret
  exact ⟨⟨false, rfl, fun h => by cases h⟩, rfl⟩
 by_cases h4 : x = 46
 case neg =>
  have e4 : ((x.toNat : Int) != 46) = true := by
   have : ¬ (x.toNat : Int) = 46 := fun h => h4 (UInt8.toNat_inj.1 (by show x.toNat = 46; omega))
   simpa using this
  clear h4
  go_wp2_with fail
  go_ret
  exact ⟨⟨false, rfl, fun h => by cases h⟩, rfl⟩
 have e4 : ((x.toNat : Int) != 46) = false := by rw [h4]; rfl
 have HC : Hid (mD x = true) := by
  show mD x = true
  rw [h4]
  rfl
 clear h4
 go_wp2_with fail
 go_roundw
 case rel => exact ⟨k + 1, HLT.out, by go_num, trivial, HNX.out (HC.out)⟩
 case measure => have := HLT.out; simp [intOf]; omega
end Go.Proofs.YtpeaiphdkgifaaaGreatDoor
