/- The words of a track: the walk over the closure that writes numbers. -/
import Derived.Test.YtpeaiphdkgifaaaGreatDoorVbb
import Derived.Test.YtpeaiphdkgifaaaGreatDoorVaz
import Derived.Test.YtpeaiphdkgifaaaGreatDoorVbc
import Derived.Test.YtpeaiphdkgifaaaGreatDoorVat
import Derived.Test.YtpeaiphdkgifaaaGreatDoorVau
import Derived.Test.YtpeaiphdkgifaaaGreatDoorVay
import Derived.Test.YtpeaiphdkgifaaaGreatDoorVaj
namespace Go.Proofs.YtpeaiphdkgifaaaGreatDoor
open Go.RowKit
set_option maxHeartbeats 20000000
set_option maxRecDepth 100000
section
attribute [local go_sem] Oper.semAt_some
structure lM (base : Nat) (W : World) (B : Nat) (v : Value) (ws : List (List UInt8)) : Prop where
 row : W.heap[B]? = some (.cells #[v] 23 (0, 0))
 own : W.ownsRow base 9 1 v ws.length (ws.map sV)
 le : base <= W.heap.size
def FrB (B : Nat) (v v' : Value) (W W' : World) : Prop := W.heap.size <= W'.heap.size /\ ∀ b < W.heap.size, b ≠ B -> v.ownBlock ≠ some b -> W'.heap[b]? = W.heap[b]? /\ v'.ownBlock ≠ some b
theorem FrB.refl (B : Nat) (v : Value) (W : World) : FrB B v v W W := ⟨aH _, fun _ _ _ h => ⟨rfl, h⟩⟩
theorem FrB.trans {B : Nat} {v v' v'' : Value} {W W' W'' : World} (h : FrB B v v' W W') (k : FrB B v' v'' W' W'') : FrB B v v'' W W'' :=
 ⟨aG h.1 k.1, fun b hb h1 h2 => by
  obtain ⟨e1, e2⟩ := h.2 b hb h1 h2
  obtain ⟨e3, e4⟩ := k.2 b (by have := h.1; omega) h1 e2
  exact ⟨e3.trans e1, e4⟩⟩
theorem FrB.of_below {B : Nat} {v : Value} {W W' : World} (h : Below W.heap.size W W') : FrB B v v W W' := ⟨h.size, fun b hb _ h2 => ⟨h.block b hb, h2⟩⟩
theorem own_nb {base : Nat} {W : World} {v : Value} {k : Nat} {xs : List Value} (h : W.ownsRow base 9 1 v k xs) {B : Nat} {cs : Array Value} (hB : W.heap[B]? = some (.cells cs 23 (0, 0))) : v.ownBlock ≠ some B := by
 intro e
 rcases h.2 with ⟨rfl, -⟩ | ⟨g, cap, cur, rfl, -, hg, -⟩
 ·cases e
 ·cases e
  rw [hg] at hB
  cases hB
theorem tM {base : Nat} {W W' : World} {e : TypeId} {s : Nat} {v : Value} {k : Nat} {xs : List Value} (h : W.ownsRow base e s v k xs) (hk : ∀ g, v.ownBlock = some g -> W'.heap[g]? = W.heap[g]?) : W'.ownsRow base e s v k xs := by
 refine ⟨h.1, ?_⟩
 rcases h.2 with h2 | ⟨g, cap, cur, rfl, h1, hg, h3⟩
 ·exact .inl h2
 ·exact .inr ⟨g, cap, cur, rfl, h1, (hk g rfl).trans hg, h3⟩
theorem lM.below {base : Nat} {W W' : World} {B : Nat} {v : Value} {ws : List (List UInt8)} (h : lM base W B v ws) (hb : Below W.heap.size W W') : lM base W' B v ws :=
 ⟨(hb.block _ (aa h.row)).trans h.row, aq h.own hb, aG h.le hb.size⟩
def r9 (B : Nat) (v : Value) (A : Option Addr) : Prop := ∀ a, A = some a -> a.block ≠ B /\ v.ownBlock ≠ some a.block
theorem rO {W W' : World} {b i : Nat} (h : W'.heap[b]? = W.heap[b]?) : W'.cell? (aV b i) = W.cell? (aV b i) := by
 unfold World.cell?
 simp only [h]
theorem ng {base : Nat} {W w' : World} {B : Nat} {v v' : Value} {ws zs : List (List UInt8)} (hW : lM base W B v ws) (hbB : base <= B) (own1 : w'.ownsRow base 9 1 v' zs.length (zs.map sV))
  (hgrow : W.grownBy w' v.ownBlock) (hat : v'.ownBlock = v.ownBlock ∨ v'.ownBlock = some W.heap.size) :
  lM base (w'.setCell (aV B 0) v') B v' zs /\ FrB B v v' W (w'.setCell (aV B 0) v') /\ Below base W (w'.setCell (aV B 0) v') /\ w'.heap[B]? = some (.cells #[v] 23 (0, 0)) := by
 have hne : v.ownBlock ≠ some B := own_nb hW.own hW.row
 have hr' : w'.heap[B]? = some (.cells #[v] 23 (0, 0)) := (hgrow.block B (aa hW.row) (fun e => hne e.symm)).trans hW.row
 have hBl := aa hW.row
 have hgB : v'.ownBlock ≠ some B := by
  rcases hat with h | h
  ·rw [h]; exact hne
  ·rw [h]; intro e; have := Option.some.inj e; omega
 refine ⟨⟨bE hr' 0 _, ?_, ?_⟩, ⟨?_, ?_⟩, ?_, hr'⟩
 ·exact tM own1 (fun k e => Below.heap_setCell _ _ _ _ (by show k ≠ B; intro h; subst h; exact hgB e))
 ·have := hW.le; have := hgrow.size; simp; omega
 ·have := hgrow.size; simp; omega
 ·intro b hb h1 h2
  refine ⟨(Below.heap_setCell _ _ _ _ h1).trans (hgrow.block b hb (fun e => h2 e.symm)), ?_⟩
  intro e
  rcases hat with h | h
  ·exact h2 (h ▸ e)
  ·rw [h] at e
   have := Option.some.inj e
   omega
 ·refine ((aJ base W).grown hgrow hW.le (fun k e => ?_)).setCell (p := (aV B 0)) hbB _
  rcases hW.own.2 with ⟨h, -⟩ | ⟨k', _, _, h, h3, -⟩
  ·have e' : v.ownBlock = some k := e
   rw [h] at e'; cases e'
  ·have e' : v.ownBlock = some k := e
   rw [h] at e'; cases e'; exact h3
theorem pj {base : Nat} {W w' : World} {B : Nat} {v : Value} {ws : List (List UInt8)} (hW : lM base W B v ws) (hgrow : W.grownBy w' v.ownBlock) : Below base W w' := by
 refine (aJ base W).grown hgrow hW.le (fun k e => ?_)
 rcases hW.own.2 with ⟨h, -⟩ | ⟨k', _, _, h, h3, -⟩
 ·have e' : v.ownBlock = some k := e
  rw [h] at e'; cases e'
 ·have e' : v.ownBlock = some k := e
  rw [h] at e'; cases e'; exact h3
def AddR (base : Nat) (W : World) (B : Nat) (v : Value) (ws : List (List UInt8)) (e : Ending) (W' : World) : Prop := e = .returned (.tuple #[]) /\ ∃ v', lM base W' B v' ws /\ FrB B v v' W W' /\ Below base W W'
theorem sm : (Tryz.prog.info? 9).map (fun i => (i.zero, i.size, i.bytes)) = some (some (.string ⟨#[]⟩), 1, 16) := by kernel_rfl
theorem o7 (w : World) (B : Nat) (v : Value) (ws : List (List UInt8)) (xs : List Int) (m : Nat) (hm : xs.length = m) (A : Option Addr) (c : Nat) (W : World) (hW : lM w.heap.size W B v ws) (hB : w.heap.size <= B) (hbel : Below w.heap.size w W) (hpw : PW w) (hl : ws.length + xs.length <= 1000000) (hr : Rd W A (xs.map iV)) (ha : 0 < xs.length -> r9 B v A) (hx : ∀ x ∈ xs, I64 x) :
  Calls Tryz.prog 64 #[.slice A m c, .pointer (some (aV B 0))] W (AddR w.heap.size W B v (ws ++ xs.map Lib.itoa)) := by
 subst hm
 have HW := aB hW
 have HB := aB hB
 have HBEL := aB hbel
 have HPW := aB hpw
 have HR := aB hr
 have HA := aB ha
 have HX := aB hx
 clear hW hB hbel hpw hr ha hx
 obtain ⟨s0, hs0, hsa, hsb, hsc⟩ := info_parts sm
 go_enter Tryz.func64, Tryz.ntmps64
 go_wp2_with fail
 go_loopw [4, 7] (fun _ i wr => ∃ (k : Nat) (v' : Value), k <= xs.length /\ i = iV k /\ lM w.heap.size wr B v' (ws ++ (xs.take k).map Lib.itoa) /\ FrB B v v' W wr /\ Below w.heap.size W wr) (fun _ i _ => xs.length + 1 - (intOf i).toNat)
 case atStart => exact ⟨0, v, by omega, rfl, by simpa using HW.out, FrB.refl _ _ _, aJ _ _⟩
 case round =>
 obtain ⟨k, v', hk, rfl, hws, hfr, hbw⟩ := hrel
 have HWS := aB hws
 have HFR := aB hfr
 have HBW := aB hbw
 clear hws hfr hbw
 have k0 : (0 : Int) <= (k : Int) := by omega
 by_cases hlt : k < xs.length
 case neg =>
  have k1 : ¬ (k : Int) < (xs.length : Int) := by omega
  go_wp2_with fail
  go_end0
  refine ⟨rfl, v', ?_, HFR.out, HBW.out⟩
  have h := HWS.out
  rw [List.take_of_length_le (by omega)] at h
  exact h
 have HLT := aB hlt
 have k1 : (k : Int) < (xs.length : Int) := by omega
 obtain ⟨S, so, hA, hS, hcell⟩ := HR.out.get (i := k) (by simpa using hlt)
 obtain ⟨x, hxv⟩ : ∃ x, xs[k]? = some x := ⟨_, aD hlt⟩
 have hxk : (xs.map iV)[k]? = some (iV x) := by rw [aS, hxv]; rfl
 obtain ⟨hs1, hs2⟩ := HA.out (by omega) _ hA
 have c1 : wr.cell? (aV S (so + k)) = some (iV x) := (rO (HFR.out.2 S hS hs1 hs2).1).trans (hcell k _ hxk)
 have HI1 : Hid (I64 x) := HX.out x (aF hxv)
 have HXV := aB hxv
 rw [hA]
 clear hcell hxk hs1 hs2 hA hxv hlt
 go_upto_region 3 with fail
 clear c1
 have HD0 : Hid (Below wr.heap.size wr wr.drew) := al (aJ _ _)
 have hBl : B < wr.heap.size := aa HWS.out.row
 have HBL := aB hBl
 have HST : Hid (∀ W' : World, W'.heap[B]? = wr.heap[B]? -> W'.cell? (aV B 0) = some v') := fun W' hb => aA 0 (hb.trans HWS.out.row)
 have hwl : (ws ++ (xs.take k).map Lib.itoa).length <= 1000000 := by simp; omega
 have HWL := aB hwl
 have HPW7 : Hid (PW wr) := HPW.out.below (HBEL.out.trans HBW.out)
 have HBS : Hid (w.heap.size <= wr.heap.size) := HWS.out.le
 generalize hwn : ws ++ (xs.take k).map Lib.itoa = wn at *
 have HWN := aB hwn
 clear hBl hwl hwn
 refine wp_region_noPanic ?_
 refine iP 5 (fun w' => w'.cell? (aV B 0) = some v') (by kernel_rfl) (HST.out _ rfl) (fun hHeld => ?_)
 refine taL 0 ?_
 try simp only [LY]
 refine puL 1 ?_
 try simp only [LY]
 refine reL 2 (fun K hK => ?_)
 go_simp
 refine (mF x _ HI1.out (HPW7.out.below HD0.out)).mono ?_
 rintro e u1 ⟨rfl, hb⟩
 have HU1 := aB (bt HD0.out hb)
 clear hb
 go_wp2_with fail
 refine hK.out _ _ (HST.out _ (HU1.out.block _ HBL.out)) (fun hHeld => ?_)
 clear hK K
 try simp only [LY]
 refine reL 3 (fun K hK => ?_)
 go_simp
 refine hK.out _ _ (HST.out _ ((aK _ _ _ (Nat.lt_of_lt_of_le HBL.out HU1.out.size)).trans (HU1.out.block _ HBL.out))) (fun hHeld => ?_)
 clear hK K
 try simp only [LY]
 refine reL 4 (fun K hK => ?_)
 refine step_append_lies _ (by rfl) (.tmp 11) (.tmp 14) _ (by rfl) w.heap.size 9 s0 _ 1 16 Tryz.underlying23 hs0 hsa hsb hsc rfl (by omega) v' wn.length (wn.map sV) (by rfl) ((aq HWS.out.own HU1.out).alloc _) _ 1 1 [sV (Lib.itoa x)] (by rfl) rfl (dC (aC _ _)) (fun u hu => by simp at hu; subst hu; rfl) (by omega) (by have := HWL.out; unfold maxLen; omega) (by have := HWL.out; omega) (by have := HBS.out; have := HU1.out.size; simp; omega) _ rfl ?_
 intro g8 d8 v8 own8 hg8 hat8 hlt8
 have hw1 := (HWS.out.below HU1.out).below (ba u1 (.cells #[sV (Lib.itoa x)] 9))
 have own9 : v8.ownsRow w.heap.size 9 1 (.slice (some (aV g8 0)) (wn.length + 1) d8) (wn ++ [Lib.itoa x]).length ((wn ++ [Lib.itoa x]).map sV) := by
  rw [List.length_append, List.map_append]
  exact own8
 obtain ⟨a1, a2, a3, a4⟩ := ng hw1 HB.out own9 hg8 (by
  rcases hat8 with h9 | h9
  ·exact .inl h9.symm
  ·exact .inr (congrArg some h9))
 have HA1 := aB a1
 have HA2 : Hid (FrB B v (.slice (some (aV g8 0)) (wn.length + 1) d8) W (v8.setCell (aV B 0) (.slice (some (aV g8 0)) (wn.length + 1) d8))) := HFR.out.trans ((FrB.of_below (HU1.out.trans ((ba u1 _).mono HU1.out.size))).trans a2)
 have HA3 : Hid (Below w.heap.size W (v8.setCell (aV B 0) (.slice (some (aV g8 0)) (wn.length + 1) d8))) := HBW.out.trans (((HU1.out.trans ((ba u1 _).mono HU1.out.size)).mono HBS.out).trans a3)
 have HA4 := aB a4
 have fz9 : v8.frozen? (aV B 0) = false := ac a4 0
 clear own8 own9 hg8 hat8 hlt8 hw1 a1 a2 a3 a4
 refine hK.out _ _ (aA 0 HA4.out) (fun hHeld => ?_)
 clear hK K
 try simp only [LY]
 refine bZ (by kernel_rfl) rfl (fun K hK => ?_)
 go_simp
 refine hK.out _ _ ?_
 clear hK K
 try simp only [LY]
 refine wpAny_done (by kernel_rfl) ?_ _
 refine NoPanic.normal ?_
 change Exit.inBlock _ _ _ _ (v8.setCell (aV B 0) (.slice (some (aV g8 0)) (wn.length + 1) d8))
 clear fz9 hHeld
 generalize (v8.setCell (aV B 0) (.slice (some (aV g8 0)) (wn.length + 1) d8)) = V8 at *
 go_wp2_with fail
 go_roundw
 case rel =>
  refine ⟨k + 1, .slice (some (aV g8 0)) (wn.length + 1) d8, by have := HLT.out; omega, by go_num, ?_, HA2.out, HA3.out⟩
  have h := HA1.out
  have e9 : ws ++ (xs.take (k + 1)).map Lib.itoa = wn ++ [Lib.itoa x] := by
   rw [<- HWN.out, List.take_add_one, HXV.out]
   simp
  rw [e9]
  exact h
 case measure => have := HLT.out; simp [intOf]; omega
end
abbrev vv (fr till : Int) (A : Option Addr) (len c : Nat) (D : Option Addr) (dl dc : Nat) : Value := .agg #[iV fr, iV till, .slice A len c, .slice D dl dc]
abbrev mq (fr till : Int) (A : Option Addr) (len c : Nat) (D : Option Addr) (dl dc : Nat) : Obj := .cells #[iV fr, iV till, .slice A len c, .slice D dl dc] 33
abbrev dq (n : Net) (fr till : Int) (A : Option Addr) (len c : Nat) (D : Option Addr) (dl dc : Nat) : List Obj := [ae n, mq fr till A len c D dl dc]
theorem fj {V : World} {X : Nat} {n : Net} (h : V.heap[X]? = some (ae n)) : V.cell? (aV X 0) = some (.slice n.calA n.cals.length n.calC) /\ V.cell? (aV X 1) = some (.slice n.namA n.names.length n.namC) /\ V.cell? (aV X 2) = some (.slice n.opA n.ops.length n.opC) /\ V.cell? (aV X 3) = some (.slice n.offA n.offs.length n.offC) /\ V.cell? (aV X 4) = some (.slice n.linA n.lins.length n.linC) /\ V.cell? (aV X 5) = some (.slice n.clsA n.clss.length n.clsC) :=
 ⟨aA 0 h, aA 1 h, aA 2 h, aA 3 h, aA 4 h, aA 5 h⟩
theorem tI (n : Net) (fr till : Int) (nx : List NsC) (nxA : Option Addr) (nxC : Nat) (D : Option Addr) (dl dc : Nat) (w : World) (hn : bj w n) (hT : Tab w nxA nx) (hx : nx.length <= maxLen) (hf : gx n) :
  Calls Tryz.prog 36 #[bB n, vv fr till nxA nx.length nxC D dl dc] w fun e w' => ij (fun b => b = true -> bM n /\ formB n nx = true) e /\ Below w.heap.size w w' := by
 go_enter Tryz.func36, Tryz.ntmps36
 go_upto_region 1 with fail
 have hb5 := bv (dq n fr till nxA nx.length nxC D dl dc) w
 have hg5 := bN (dq n fr till nxA nx.length nxC D dl dc) w
 have q0 : (au w (dq n fr till nxA nx.length nxC D dl dc)).heap[w.heap.size]? = some (ae n) := hg5 0 _ rfl
 have q1 : (au w (dq n fr till nxA nx.length nxC D dl dc)).heap[w.heap.size + 1]? = some (mq fr till nxA nx.length nxC D dl dc) := hg5 1 _ rfl
 change Code.wp _ _ _ _ (au w (dq n fr till nxA nx.length nxC D dl dc))
 generalize au w (dq n fr till nxA nx.length nxC D dl dc) = V1 at *
 have HW : Hid (Below w.heap.size w V1) := hb5
 have HH := aB (And.intro hn (And.intro hT (And.intro hx hf)))
 generalize w.heap.size = X at q0 q1 hb5 ⊢
 obtain ⟨c0, c1, c2, c3, c4, c5⟩ := fj q0
 have HQ := aB (And.intro q0 q1)
 clear hb5 hg5 q0 q1 hn hT hx hf
 go_wp2_with fail
 refine (rh n V1 (HH.out.1.below HW.out) HH.out.2.2.2).mono ?_
 rintro e V2 ⟨⟨b, rfl, hs⟩, hb⟩
 have HW2 : Hid (Below w.heap.size w V2) := HW.out.trans (hb.mono HW.out.size)
 have hq0 := (hb.block _ (aa HQ.out.1)).trans HQ.out.1
 have hq1 := (hb.block _ (aa HQ.out.2)).trans HQ.out.2
 clear c0 c1 c2 c3 c4 c5 hb
 have HSS := aB hs
 clear hs
 cases b with
 | false =>
  clear hq0 hq1
  go_wp2_with fail
  go_ret
  exact ⟨⟨false, rfl, fun h => by cases h⟩, HW2.out⟩
 | true =>
 obtain ⟨c0, c1, c2, c3, c4, c5⟩ := fj hq0
 have d2 : V2.cell? (aV (X + 1) 2) = some (.slice nxA nx.length nxC) := aA 2 hq1
 clear hq0 hq1
 go_wp2_with fail
 refine (ub n nxA nxC nx V2 (HH.out.1.below HW2.out) (HH.out.2.1.below HW2.out) HH.out.2.2.1).mono ?_
 rintro e V3 ⟨rfl, hb⟩
 have HW3 : Hid (Below w.heap.size w V3) := HW2.out.trans (hb.mono HW2.out.size)
 clear c0 c1 c2 c3 c4 c5 d2 hb
 go_wp2_with fail
 go_ret
 exact ⟨⟨formB n nx, rfl, fun h => ⟨HSS.out (by simp), h⟩⟩, HW3.out⟩
theorem uS (n : Net) (fr till : Int) (nx : List NsC) (nxA : Option Addr) (nxC : Nat) (D : Option Addr) (dl dc : Nat) (DA : Option Addr) (dn DC : Nat) (w : World) (hn : bj w n) (hT : Tab w nxA nx) (hx : nx.length <= maxLen) :
  Calls Tryz.prog 35 #[bB n, vv fr till nxA nx.length nxC D dl dc, .slice DA dn DC] w fun e w' => ij (fun b => b = true -> (gx n /\ n.offs.length <= 6) /\ dn <= 16) e /\ Below w.heap.size w w' := by
 go_enter Tryz.func35, Tryz.ntmps35
 go_upto_region 1 with fail
 have hb5 := bv (dq n fr till nxA nx.length nxC D dl dc) w
 have hg5 := bN (dq n fr till nxA nx.length nxC D dl dc) w
 have q0 : (au w (dq n fr till nxA nx.length nxC D dl dc)).heap[w.heap.size]? = some (ae n) := hg5 0 _ rfl
 have q1 : (au w (dq n fr till nxA nx.length nxC D dl dc)).heap[w.heap.size + 1]? = some (mq fr till nxA nx.length nxC D dl dc) := hg5 1 _ rfl
 change Code.wp _ _ _ _ (au w (dq n fr till nxA nx.length nxC D dl dc))
 generalize au w (dq n fr till nxA nx.length nxC D dl dc) = V1 at *
 have HW : Hid (Below w.heap.size w V1) := hb5
 have HH := aB (And.intro hn (And.intro hT hx))
 generalize w.heap.size = X at q0 q1 hb5 ⊢
 obtain ⟨c0, c1, c2, c3, c4, c5⟩ := fj q0
 have d2 : V1.cell? (aV (X + 1) 2) = some (.slice nxA nx.length nxC) := aA 2 q1
 clear hb5 hg5 q0 q1 hn hT hx
 go_wp2_with fail
 refine (s6 n nxA nxC nx V1 (HH.out.1.below HW.out) (HH.out.2.1.below HW.out) HH.out.2.2).mono ?_
 rintro e V2 ⟨⟨b, rfl, hs⟩, hb⟩
 have HW2 : Hid (Below w.heap.size w V2) := HW.out.trans (hb.mono HW.out.size)
 clear c0 c1 c2 c3 c4 c5 d2 hb
 have HSS := aB hs
 clear hs
 cases b with
 | false =>
  go_wp2_with fail
  go_ret
  exact ⟨⟨false, rfl, fun h => by cases h⟩, HW2.out⟩
 | true =>
 go_wp2_with fail
 go_ret
 refine ⟨⟨decide ((dn : Int) <= 16), rfl, fun h => ⟨HSS.out (by simp), ?_⟩⟩, HW2.out⟩
 have : (dn : Int) <= 16 := by simpa using h
 omega
theorem mp {ds : List Ded} {l : List UInt8} : l ∈ bD ds ↔ ∃ d ∈ ds, d.kind = 1 /\ d.post.label = l := by
 unfold bD
 simp only [List.mem_map, List.mem_filter, beq_iff_eq]
 constructor
 ·rintro ⟨d, ⟨h1, h2⟩, h3⟩
  exact ⟨d, h1, h2, h3⟩
 ·rintro ⟨d, h1, h2, h3⟩
  exact ⟨d, ⟨h1, h2⟩, h3⟩
theorem gh (DA : Option Addr) (DC : Nat) (ds : List Ded) (l : List UInt8) (w : World) (hds : Rd w DA (ds.flatMap eW)) (hl : ds.length <= 1000) :
  Calls Tryz.prog 87 #[.slice DA ds.length DC, sV l] w fun e w' => (∃ v : Int, e = .returned (iV v) /\ -1 <= v /\ (0 <= v ↔ l ∈ bD ds)) /\ Below w.heap.size w w' := by
 have HDS := aB hds
 have HL := aB hl
 clear hds hl
 go_enter Tryz.func87, Tryz.ntmps87
 go_wp2
 go_loopw [4, 5] (fun _ i wr => ∃ k q : Nat, k <= ds.length /\ i = iV k /\ wr = w.drewN q /\ Hid (∀ d ∈ ds.take k, ¬ (d.kind = 1 /\ d.post.label = l))) (fun _ i _ => ds.length + 1 - (intOf i).toNat)
 case atStart => exact ⟨0, 0, Nat.zero_le _, rfl, rfl, aB (by simp)⟩
 case round =>
 obtain ⟨k, q, hk, rfl, rfl, HNO⟩ := hrel
 have j0 : (0 : Int) <= (k : Int) := by omega
 by_cases hlt : k < ds.length
 case neg =>
  have j1 : ¬ (k : Int) < (ds.length : Int) := by omega
  have HKE : Hid (k = ds.length) := by show k = ds.length; omega
  clear hlt hk
  go_wp2_with fail
  go_ret
  refine ⟨⟨-1, rfl, Int.le_refl _, ⟨fun h => absurd h (by decide), fun h => ?_⟩⟩, ai (aJ _ _) _⟩
  obtain ⟨d, h1, h2, h3⟩ := mp.1 h
  have := HNO.out d (by rw [HKE.out, List.take_length]; exact h1)
  exact absurd ⟨h2, h3⟩ this
 have j1 : (k : Int) < (ds.length : Int) := by omega
 have HLT := aB hlt
 obtain ⟨d, hd⟩ : ∃ d, ds[k]? = some d := ⟨_, aD hlt⟩
 obtain ⟨-, db, dof, hDA, -, y0, yj⟩ := ay hU HDS.out hd (by omega)
 have z0 : w.cell? (aV db (dof + k * 10)) = some (iV d.kind) := y0 _ rfl
 have z2 : w.cell? (aV db (dof + k * 10 + 2)) = some (sV d.post.label) := yj 2 _ rfl
 have HDE := aB hd
 rw [hDA]
 clear y0 yj hlt hk hd hDA
 by_cases h1 : d.kind = 1
 case neg =>
  have e1 : (d.kind == 1) = false := by simpa using h1
  have H1 := aB h1
  clear h1
  go_wp2_with fail
  have e7 : wrap64 ((k : Int) + 1) = ((k + 1 : Nat) : Int) := by
   have := HL.out
   have := HLT.out
   unfold wrap64
   omega
  rw [e7]
  refine ⟨⟨k + 1, q, HLT.out, rfl, rfl, fun y hy => ?_⟩, ?_⟩
  ·rw [List.take_add_one, HDE.out] at hy
   rcases List.mem_append.1 hy with hy | hy
   ·exact HNO.out y hy
   ·have e : y = d := by simpa using hy
    rw [e]
    exact fun h => H1.out h.1
  ·have := HLT.out
   show ds.length + 1 - (((k + 1 : Nat) : Int)).toNat < ds.length + 1 - ((k : Int)).toNat
   omega
 have e1 : (d.kind == 1) = true := by simpa using h1
 have H1 := aB h1
 clear h1
 by_cases h2 : d.post.label = l
 case neg =>
  have e2 : (d.post.label == l) = false := by simpa using h2
  have H2 := aB h2
  clear h2
  go_wp2_with fail
  have e7 : wrap64 ((k : Int) + 1) = ((k + 1 : Nat) : Int) := by
   have := HL.out
   have := HLT.out
   unfold wrap64
   omega
  rw [e7]
  refine ⟨⟨k + 1, q, HLT.out, rfl, rfl, fun y hy => ?_⟩, ?_⟩
  ·rw [List.take_add_one, HDE.out] at hy
   rcases List.mem_append.1 hy with hy | hy
   ·exact HNO.out y hy
   ·have e : y = d := by simpa using hy
    rw [e]
    exact fun h => H2.out h.2
  ·have := HLT.out
   show ds.length + 1 - (((k + 1 : Nat) : Int)).toNat < ds.length + 1 - ((k : Int)).toNat
   omega
 have e2 : (d.post.label == l) = true := by simpa using h2
 have H2 := aB h2
 clear h2
 go_wp2_with fail
 go_ret
 refine ⟨⟨k, rfl, by omega, ⟨fun _ => mp.2 ⟨d, aF HDE.out, H1.out, H2.out⟩, fun _ => by omega⟩⟩, ai (aJ _ _) _⟩
noncomputable def delR (n : Net) (it : Pst) (stops : List St) (lost : Bool) (labs : List (List UInt8)) : Option Int :=
 if lost = true ∨ (aj stops).office ≠ it.dst ∨ (aj stops).depart ≠ -1 ∨ labs.getLastD [] ≠ it.label then none
 else if (deliveryTop n it.cls (aj stops).office (aj stops).arrive).2 = 0 then some (deliveryTop n it.cls (aj stops).office (aj stops).arrive).1 else none
def delV (o : Option Int) : Value := .tuple #[iV (o.getD 0), .bool o.isSome]
abbrev jw (n : Net) (t : Trk) : List Obj := [ae n, gE t]
theorem gI (n : Net) (t : Trk) (w : World) (hn : bj w n) (hk : KW w) (hS : bM n) (hT : lK w t) (hl : t.stops.length <= 1000) (hl2 : t.labs.length <= 1000) (hs0 : t.stops ≠ []) (hl0 : t.labs ≠ []) :
  Calls Tryz.prog 30 #[bB n, oB t] w fun e w' => e = .returned (delV (delR n t.post t.stops t.lost t.labs)) /\ Below w.heap.size w w' := by
 go_enter Tryz.func30, Tryz.ntmps30
 go_upto_region 1 with fail
 have hb5 := bv (jw n t) w
 have hg5 := bN (jw n t) w
 have q0 : (au w (jw n t)).heap[w.heap.size]? = some (ae n) := hg5 0 _ rfl
 have q1 : (au w (jw n t)).heap[w.heap.size + 1]? = some (gE t) := hg5 1 _ rfl
 change Code.wp _ _ _ _ (au w (jw n t))
 generalize au w (jw n t) = V1 at *
 have hws : Below w.heap.size w V1 := hb5
 generalize w.heap.size = X at q0 q1 hb5 ⊢
 have c0 : V1.cell? (aV X 0) = some (.slice n.calA n.cals.length n.calC) := aA 0 q0
 have c1 : V1.cell? (aV X 1) = some (.slice n.namA n.names.length n.namC) := aA 1 q0
 have c2 : V1.cell? (aV X 2) = some (.slice n.opA n.ops.length n.opC) := aA 2 q0
 have c3 : V1.cell? (aV X 3) = some (.slice n.offA n.offs.length n.offC) := aA 3 q0
 have c4 : V1.cell? (aV X 4) = some (.slice n.linA n.lins.length n.linC) := aA 4 q0
 have c5 : V1.cell? (aV X 5) = some (.slice n.clsA n.clss.length n.clsC) := aA 5 q0
 have t5 : V1.cell? (aV (X + 1) 5) = some (.slice t.sA t.stops.length t.sC) := aA 5 q1
 have hne : 0 < t.stops.length := aL.2 hs0
 have e0 : ((t.stops.length : Int) == 0) = false := by
  have : ¬ (t.stops.length : Int) = 0 := by omega
  simpa using this
 have HQ := aB (And.intro q0 q1)
 have HW := aB hws
 have HB := aB hb5
 have HH := aB (And.intro hn (And.intro hk (And.intro hS hT)))
 have HL := aB (And.intro hl (And.intro hl2 (And.intro hs0 (And.intro hl0 hne))))
 clear hb5 hg5 hws q0 q1 hn hk hS hT hl hl2 hs0 hl0 hne
 go_wp2_with fail
 refine (lY n V1 (HH.out.1.below HW.out) (HH.out.2.1.below HW.out) HH.out.2.2.1).mono ?_
 rintro e V2 ⟨rfl, hb⟩
 have hq0 := (hb.block _ (aa HQ.out.1)).trans HQ.out.1
 have hq1 := (hb.block _ (aa HQ.out.2)).trans HQ.out.2
 have hw2 : Below w.heap.size w V2 := HW.out.trans (hb.mono HW.out.size)
 obtain ⟨p, hp⟩ : ∃ p : Nat, (t.stops.length : Int) - 1 = (p : Int) := ⟨t.stops.length - 1, by have := HL.out.2.2.2.2; omega⟩
 obtain ⟨r, hr⟩ : ∃ r : Nat, (t.labs.length : Int) - 1 = (r : Int) := ⟨t.labs.length - 1, by have := aL.2 HL.out.2.2.2.1; omega⟩
 obtain ⟨s, hs⟩ : ∃ s, aj t.stops = s := ⟨_, rfl⟩
 obtain ⟨x, hx⟩ : ∃ x, t.labs.getLastD [] = x := ⟨_, rfl⟩
 have hsp : t.stops[p]? = some s := by
  rw [<- hs]
  unfold aj
  rw [List.getLastD_eq_getLast?, List.getLast?_eq_getElem?, show t.stops.length - 1 = p by omega, aD (by omega)]
  rfl
 have hxp : t.labs[r]? = some x := by
  rw [<- hx]
  have := aL.2 HL.out.2.2.2.1
  rw [List.getLastD_eq_getLast?, List.getLast?_eq_getElem?, show t.labs.length - 1 = r by omega, aD (by omega)]
  rfl
 obtain ⟨hpl, ab, ao, hA, -, z0, zj⟩ := ay cH (HH.out.2.2.2.st.below hw2) hsp (by omega)
 have s0 : V2.cell? (aV ab (ao + p * 4)) = some (iV s.office) := z0 _ rfl
 have s1 : V2.cell? (aV ab (ao + p * 4 + 1)) = some (iV s.arrive) := zj 1 _ rfl
 have s2 : V2.cell? (aV ab (ao + p * 4 + 2)) = some (iV s.depart) := zj 2 _ rfl
 have s3 : V2.cell? (aV ab (ao + p * 4 + 3)) = some (iV s.line) := zj 3 _ rfl
 have t5 : V2.cell? (aV (X + 1) 5) = some (.slice (some (aV ab ao)) t.stops.length t.sC) := by rw [<- hA]; exact aA 5 hq1
 have hwp : wrap64 (p : Int) = (p : Int) := by
  have := HL.out.1
  unfold wrap64
  omega
 have hwr : wrap64 (r : Int) = (r : Int) := by
  have := HL.out.2.1
  unfold wrap64
  omega
 have HWR := aB hwr
 clear hwr
 have j0 : (0 : Int) <= (p : Int) := by omega
 have j1 : (p : Int) < (t.stops.length : Int) := by omega
 have HQ2 := aB (And.intro hq0 hq1)
 have HW2 := aB hw2
 have HSX := aB (And.intro hs hx)
 have HXP := aB hxp
 have HR := aB hr
 clear c0 c1 c2 c3 c4 c5 hb hq0 hq1 hw2 hs hx hsp hxp hpl hA z0 zj hr
 go_upto_region 4 with fail
 have HB3 : Hid (Below V2.heap.size V2 (V2.alloc (.cells #[iV s.office, iV s.arrive, iV s.depart, iV s.line] 50))) := ba _ _
 have hx3 := aC V2 (.cells #[iV s.office, iV s.arrive, iV s.depart, iV s.line] 50)
 have hq0 := (HB3.out.block _ (aa HQ2.out.1)).trans HQ2.out.1
 have hq1 := (HB3.out.block _ (aa HQ2.out.2)).trans HQ2.out.2
 have HW3 : Hid (Below w.heap.size w (V2.alloc (.cells #[iV s.office, iV s.arrive, iV s.depart, iV s.line] 50))) := HW2.out.trans (HB3.out.mono HW2.out.size)
 change Code.wp _ _ _ _ (V2.alloc (.cells #[iV s.office, iV s.arrive, iV s.depart, iV s.line] 50))
 clear s0 s1 s2 s3 t5 j0 j1
 obtain ⟨Y, hY⟩ : ∃ Y, V2.heap.size = Y := ⟨_, rfl⟩
 rw [hY] at hx3 ⊢
 clear HB3 hY
 generalize (V2.alloc (.cells #[iV s.office, iV s.arrive, iV s.depart, iV s.line] 50)) = V3 at *
 have s0 : V3.cell? (aV Y 0) = some (iV s.office) := aA 0 hx3
 have s1 : V3.cell? (aV Y 1) = some (iV s.arrive) := aA 1 hx3
 have s2 : V3.cell? (aV Y 2) = some (iV s.depart) := aA 2 hx3
 have t0 : V3.cell? (aV (X + 1) 0) = some (sV t.post.label) := aA 0 hq1
 have t2 : V3.cell? (aV (X + 1) 2) = some (iV t.post.dst) := aA 2 hq1
 have t3 : V3.cell? (aV (X + 1) 3) = some (iV t.post.cls) := aA 3 hq1
 have t6 : V3.cell? (aV (X + 1) 6) = some (.bool t.lost) := aA 6 hq1
 obtain ⟨lb, lo, hLA, -, hlc⟩ := (HH.out.2.2.2.la.below HW3.out).get (i := r) (by rw [List.length_map]; have := HR.out; omega)
 have l0 : V3.cell? (aV lb (lo + r)) = some (sV x) := hlc r _ (by rw [aS, HXP.out]; rfl)
 have t8 : V3.cell? (aV (X + 1) 8) = some (.slice (some (aV lb lo)) t.labs.length t.lC) := by rw [<- hLA]; exact aA 8 hq1
 have c0 : V3.cell? (aV X 0) = some (.slice n.calA n.cals.length n.calC) := aA 0 hq0
 have c1 : V3.cell? (aV X 1) = some (.slice n.namA n.names.length n.namC) := aA 1 hq0
 have c2 : V3.cell? (aV X 2) = some (.slice n.opA n.ops.length n.opC) := aA 2 hq0
 have c3 : V3.cell? (aV X 3) = some (.slice n.offA n.offs.length n.offC) := aA 3 hq0
 have c4 : V3.cell? (aV X 4) = some (.slice n.linA n.lins.length n.linC) := aA 4 hq0
 have c5 : V3.cell? (aV X 5) = some (.slice n.clsA n.clss.length n.clsC) := aA 5 hq0
 have hR : delR n t.post t.stops t.lost t.labs = (if t.lost = true ∨ s.office ≠ t.post.dst ∨ s.depart ≠ -1 ∨ x ≠ t.post.label then none else if (deliveryTop n t.post.cls s.office s.arrive).2 = 0 then some (deliveryTop n t.post.cls s.office s.arrive).1 else none) := by
  unfold delR
  rw [HSX.out.1, HSX.out.2]
 have HRR := aB hR
 clear hx3 hq0 hq1 hR hLA hlc
 cases hlost : t.lost with
 | true =>
  rw [hlost] at t6
  have HLO := aB hlost
  clear hlost
  go_wp2_with fail
  go_ret2
  exact ⟨by rw [HRR.out, if_pos (.inl HLO.out)]; rfl, HW3.out⟩
 | false =>
 rw [hlost] at t6
 have HLO := aB hlost
 clear hlost
 by_cases h1 : s.office = t.post.dst
 case neg =>
  have e1 : (s.office != t.post.dst) = true := by simpa using h1
  have H1 := aB h1
  clear h1
  go_wp2_with fail
  go_ret2
  exact ⟨by rw [HRR.out, if_pos (.inr (.inl H1.out))]; rfl, HW3.out⟩
 have e1 : (s.office != t.post.dst) = false := by simpa using h1
 have H1 := aB h1
 clear h1
 by_cases h2 : s.depart = -1
 case neg =>
  have e2 : (s.depart != -1) = true := by simpa using h2
  have H2 := aB h2
  clear h2
  go_wp2_with fail
  go_ret2
  exact ⟨by rw [HRR.out, if_pos (.inr (.inr (.inl H2.out)))]; rfl, HW3.out⟩
 have e2 : (s.depart != -1) = false := by simpa using h2
 have H2 := aB h2
 clear h2
 go_upto_region 6 with fail
 have hr := HR.out
 have hwr := HWR.out
 have r0 : (0 : Int) <= (r : Int) := by omega
 have r1 : (r : Int) < (t.labs.length : Int) := by omega
 have e3 : ((t.labs.length : Int) == 0) = false := by
  have : ¬ (t.labs.length : Int) = 0 := by omega
  simpa using this
 by_cases h3 : x = t.post.label
 case neg =>
  have e4 : (x == t.post.label) = false := by simpa using h3
  have H3 := aB h3
  clear h3
  go_quiet (fail)
  go_wp2_with fail
  go_ret2
  exact ⟨by rw [HRR.out, if_pos (.inr (.inr (.inr H3.out)))]; rfl, ai HW3.out _⟩
 have e4 : (x == t.post.label) = true := by simpa using h3
 have H3 := aB h3
 clear h3
 go_quiet (fail)
 go_wp2_with fail
 refine (iI n t.post.cls s.office s.arrive _ (HH.out.1.below (ai HW3.out _)) (HH.out.2.1.below (ai HW3.out _))).mono ?_
 rintro e V4 ⟨rfl, hb⟩
 have HW4 : Hid (Below w.heap.size w V4) := (ai HW3.out _).trans (hb.mono (ai HW3.out _).size)
 clear hb
 by_cases h5 : (deliveryTop n t.post.cls s.office s.arrive).2 = 0
 case neg =>
  have e5 : ((deliveryTop n t.post.cls s.office s.arrive).2 != 0) = true := by simpa using h5
  have H5 := aB h5
  clear h5
  go_wp2_with fail
  go_ret2
  refine ⟨?_, HW4.out⟩
  rw [HRR.out, if_neg (fun h => ?_), if_neg H5.out]
  ·rfl
  ·rcases h with h | h | h | h
   ·rw [HLO.out] at h; cases h
   ·exact h H1.out
   ·exact h H2.out
   ·exact h H3.out
 have e5 : ((deliveryTop n t.post.cls s.office s.arrive).2 != 0) = false := by simpa using h5
 have H5 := aB h5
 clear h5
 go_wp2_with fail
 go_ret2
 refine ⟨?_, HW4.out⟩
 rw [HRR.out, if_neg (fun h => ?_), if_pos H5.out]
 ·rfl
 ·rcases h with h | h | h | h
  ·rw [HLO.out] at h; cases h
  ·exact h H1.out
  ·exact h H2.out
  ·exact h H3.out
end Go.Proofs.YtpeaiphdkgifaaaGreatDoor
