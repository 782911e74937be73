/- The walk over the reference's test of deeds. -/
import Derived.Test.YtpeaiphdkgifaaaGreatDoorVbf
import Derived.Test.YtpeaiphdkgifaaaGreatDoorVaz
namespace Go.Proofs.YtpeaiphdkgifaaaGreatDoor
open Go.RowKit
set_option maxHeartbeats 20000000
set_option maxRecDepth 100000
theorem km {w : World} {A : Option Addr} {ds : List Ded} (h : Rd w A (ds.flatMap eW)) (k : Nat) : Rd w A ((ds.take k).flatMap eW) := by
 have e : ds.flatMap eW = (ds.take k).flatMap eW ++ (ds.drop k).flatMap eW := by rw [<- List.flatMap_append, List.take_append_drop]
 have h1 := h.take ((ds.take k).flatMap eW).length
 rw [e, List.take_left] at h1
 exact h1
def OkD (n : Net) (ds : List Ded) (i : Nat) (d : Ded) : Prop := 0 <= d.time /\ d.time <= 1000000 /\ (∀ e, 0 < i -> ds[i - 1]? = some e -> e.time <= d.time) /\ iK n (ds.take i) d
theorem rm (n : Net) (DA : Option Addr) (DC : Nat) (ds : List Ded) (w : World) (hn : bj w n) (hds : Rd w DA (ds.flatMap eW)) (hl : ds.length <= 16) (hcap : ds.length <= DC) (hlab : ∀ d ∈ ds, d.post.label.length <= maxLen) :
  Calls Tryz.prog 37 #[bB n, .slice DA ds.length DC] w fun e w' => ij (fun b => b = true -> bK n [] 0 ds) e /\ Below w.heap.size w w' := by
 have hb0 := ba w (ae n)
 have hx0 := aC w (ae n)
 have HN := aB hn
 have HDS := aB hds
 have HL := aB hl
 have HLB := aB hlab
 have HB0 := aB hb0
 have HX0 := aB hx0
 have HCP := aB hcap
 clear hn hds hl hlab hb0 hx0 hcap
 go_enter Tryz.func37, Tryz.ntmps37
 go_wp2
 generalize (w.alloc (ae n)) = V0 at *
 go_loopw [5, 6, 7, 8, 9] (fun c i _ _ _ wr => ∃ k q : Nat, k <= ds.length /\ q <= k /\ c = iV q /\ i = iV k /\ Hid (Below w.heap.size w wr /\ wr.heap[w.heap.size]? = some (ae n)) /\ Hid (∀ j d, j < k -> ds[j]? = some d -> OkD n ds j d)) (fun _ i _ _ _ _ => ds.length + 1 - (intOf i).toNat)
 case atStart => exact ⟨0, 0, Nat.zero_le _, aH _, rfl, rfl, ⟨HB0.out, HX0.out⟩, fun j d h => absurd h (Nat.not_lt_zero _)⟩
 case round =>
 obtain ⟨k, q, hk, hqk, rfl, rfl, HW, HO⟩ := hrel
 have j0 : (0 : Int) <= (k : Int) := by omega
 by_cases hlt : k < ds.length
 case neg =>
  have j1 : ¬ (k : Int) < (ds.length : Int) := by omega
  have HKE : Hid (k = ds.length) := by show k = ds.length; omega
  have e1 : (ds.length : Int) <= 120 := by have := HL.out; omega
  clear hlt
  go_wp2_with fail
  go_ret
  refine ⟨⟨_, rfl, fun _ => wH fun i d hi hd => ?_⟩, HW.out.1⟩
  exact HO.out i d (by rw [HKE.out]; exact hi) hd
 have j1 : (k : Int) < (ds.length : Int) := by omega
 have HLT := aB hlt
 obtain ⟨d, hd⟩ : ∃ d, ds[k]? = some d := ⟨_, aD hlt⟩
 have hrd := HDS.out.below HW.out.1
 obtain ⟨-, db, dof, hDA, -, y0, yj⟩ := ay hU hrd hd (by omega)
 have z0 : wr.cell? (aV db (dof + k * 10)) = some (iV d.kind) := y0 _ rfl
 have z1 : wr.cell? (aV db (dof + k * 10 + 1)) = some (iV d.time) := yj 1 _ rfl
 have z2 : wr.cell? (aV db (dof + k * 10 + 2)) = some (sV d.post.label) := yj 2 _ rfl
 have z3 : wr.cell? (aV db (dof + k * 10 + 3)) = some (iV d.post.frm) := yj 3 _ rfl
 have z4 : wr.cell? (aV db (dof + k * 10 + 4)) = some (iV d.post.dst) := yj 4 _ rfl
 have z5 : wr.cell? (aV db (dof + k * 10 + 5)) = some (iV d.post.cls) := yj 5 _ rfl
 have z6 : wr.cell? (aV db (dof + k * 10 + 6)) = some (iV d.post.acc) := yj 6 _ rfl
 have z7 : wr.cell? (aV db (dof + k * 10 + 7)) = some (sV d.label) := yj 7 _ rfl
 have z8 : wr.cell? (aV db (dof + k * 10 + 8)) = some (sV d.other) := yj 8 _ rfl
 have z9 : wr.cell? (aV db (dof + k * 10 + 9)) = some (iV d.line) := yj 9 _ rfl
 have hprev : 0 < k -> ∃ p e, (k : Int) - 1 = (p : Nat) /\ p = k - 1 /\ ds[p]? = some e /\ wr.cell? (aV db (dof + p * 10 + 1)) = some (iV e.time) := fun h => by
  obtain ⟨e, he⟩ : ∃ e, ds[k - 1]? = some e := ⟨_, aD (by omega)⟩
  obtain ⟨-, db2, dof2, hDA2, -, -, yj2⟩ := ay hU hrd he (by omega)
  rw [hDA] at hDA2
  cases hDA2
  exact ⟨k - 1, e, by omega, rfl, he, yj2 1 _ rfl⟩
 have HDE := aB hd
 rw [hDA]
 have HRD := aB (hDA ▸ hrd)
 have HPR := aB hprev
 clear y0 yj hlt hd hDA hrd hprev
 go_upto_region 6 with fail
 have hb := ba wr (an d)
 have hx := aC wr (an d)
 have HW1 : Hid (Below w.heap.size w (wr.alloc (an d)) /\ (wr.alloc (an d)).heap[w.heap.size]? = some (ae n)) := ⟨HW.out.1.trans (hb.mono HW.out.1.size), (hb.block _ (aa HW.out.2)).trans HW.out.2⟩
 have HRD1 := aB (HRD.out.below hb)
 have HPR1 : Hid (0 < k -> ∃ p e, (k : Int) - 1 = (p : Nat) /\ p = k - 1 /\ ds[p]? = some e /\ (wr.alloc (an d)).cell? (aV db (dof + p * 10 + 1)) = some (iV e.time)) := fun h => by
  obtain ⟨p, e, h1, h2, h3, h4⟩ := HPR.out h
  exact ⟨p, e, h1, h2, h3, ag hb h4⟩
 clear z0 z1 z2 z3 z4 z5 z6 z7 z8 z9 hb HPR
 change Code.wp _ _ _ _ (wr.alloc (an d))
 obtain ⟨x, hxd⟩ : ∃ x, wr.heap.size = x := ⟨_, rfl⟩
 rw [hxd] at hx ⊢
 generalize (wr.alloc (an d)) = V1 at *
 clear hxd
 have HX := aB hx
 have k1 : V1.cell? (aV x 1) = some (iV d.time) := aA 1 hx
 clear hx
 go_cut [42] from 20 to 42 (fun c wx => ∃ b : Bool, c = .bool b /\ (∃ m, wx = V1.drewN m) /\ Hid (b = false -> 0 <= d.time /\ d.time <= 1000000 /\ ∀ e, 0 < k -> ds[k - 1]? = some e -> e.time <= d.time))
 case first =>
  by_cases g1 : d.time < 0
  case pos =>
   go_quiet (fail)
   go_wp2_with fail
   go_meet
   exact ⟨true, rfl, ⟨_, rfl⟩, aB (fun h => by cases h)⟩
  have G1 := aB g1
  by_cases g2 : 1000000 < d.time
  case pos =>
   clear g1
   have g1 : ¬ d.time < 0 := G1.out
   go_quiet (fail)
   go_wp2_with fail
   go_meet
   exact ⟨true, rfl, ⟨_, rfl⟩, aB (fun h => by cases h)⟩
  by_cases g3 : 0 < k
  case neg =>
   have g3' : ¬ (0 : Int) < (k : Int) := by omega
   have G2 := aB (And.intro g2 g3)
   go_quiet (fail)
   go_wp2_with fail
   go_meet
   exact ⟨false, rfl, ⟨_, rfl⟩, aB (fun _ => ⟨by have := G1.out; omega, by have := G2.out.1; omega, fun e h => absurd h G2.out.2⟩)⟩
  have g3' : (0 : Int) < (k : Int) := by omega
  obtain ⟨p, e, p1, p2, p3, p4⟩ := HPR1.out g3
  have hwp : wrap64 (p : Int) = (p : Int) := by
   have := HL.out
   have := HLT.out
   unfold wrap64
   omega
  have p5 : (0 : Int) <= (p : Int) := by omega
  have p6 : (p : Int) < (ds.length : Int) := by have := HLT.out; omega
  have G2 := aB (And.intro g2 (And.intro p2 p3))
  clear p2 p3
  by_cases g4 : d.time < e.time
  ·go_quiet (fail)
   go_wp2_with fail
   go_meet
   exact ⟨true, rfl, ⟨_, rfl⟩, aB (fun h => by cases h)⟩
  ·have G4 := aB g4
   go_quiet (fail)
   go_wp2_with fail
   go_meet
   refine ⟨false, rfl, ⟨_, rfl⟩, aB (fun _ => ⟨by have := G1.out; omega, by have := G2.out.1; omega, fun e' h h2 => ?_⟩)⟩
   rw [<- G2.out.2.1, G2.out.2.2] at h2
   cases h2
   have := G4.out
   omega
 case rest =>
 obtain ⟨b, rfl, ⟨m, rfl⟩, HT⟩ := hcut
 cases b with
 | true =>
  clear k1
  go_wp2_with fail
  go_ret
  exact ⟨⟨false, rfl, fun h => by cases h⟩, ai HW1.out.1 _⟩
 | false =>
 clear k1
 have HW2 : Hid (Below w.heap.size w (V1.drewN m) /\ (V1.drewN m).heap[w.heap.size]? = some (ae n)) := ⟨ai HW1.out.1 _, HW1.out.2⟩
 have HX2 : Hid ((V1.drewN m).heap[x]? = some (an d)) := HX.out
 have HRD2 : Hid (Rd (V1.drewN m) (some (aV db dof)) (ds.flatMap eW)) := HRD1.out.below (ai (aJ _ _) _)
 clear HW HRD HW1 HX HRD1 HPR1
 generalize V1.drewN m = V2 at *
 have k0 : V2.cell? (aV x 0) = some (iV d.kind) := aA 0 HX2.out
 have kc1 : (k : Int) <= (DC : Int) := by have := HCP.out; have := HLT.out; omega
 have kc2 : k <= DC := by have := HCP.out; have := HLT.out; omega
 go_upto_region 11 with fail
 by_cases h1 : d.kind = 1
 case pos =>
  have e1 : (d.kind == 1) = true := by simpa using h1
  have H1 := aB h1
  clear h1
  have p0 : V2.cell? (aV x 2) = some (sV d.post.label) := aA 2 HX2.out
  have p1 : V2.cell? (aV x 3) = some (iV d.post.frm) := aA 3 HX2.out
  have p2 : V2.cell? (aV x 4) = some (iV d.post.dst) := aA 4 HX2.out
  have p3 : V2.cell? (aV x 5) = some (iV d.post.cls) := aA 5 HX2.out
  have p4 : V2.cell? (aV x 6) = some (iV d.post.acc) := aA 6 HX2.out
  have e7 : wrap64 ((q : Int) + 1) = ((q + 1 : Nat) : Int) := by
   have := HL.out
   have := HLT.out
   unfold wrap64
   omega
  go_upto_region 14 with fail
  have hb := ba V2 (fC d.post)
  have hy := aC V2 (fC d.post)
  have HW3 : Hid (Below w.heap.size w (V2.alloc (fC d.post)) /\ (V2.alloc (fC d.post)).heap[w.heap.size]? = some (ae n)) := ⟨HW2.out.1.trans (hb.mono HW2.out.1.size), (hb.block _ (aa HW2.out.2)).trans HW2.out.2⟩
  have HRD3 := aB (HRD2.out.below hb)
  have HX3 : Hid ((V2.alloc (fC d.post)).heap[x]? = some (an d)) := (hb.block _ (aa HX2.out)).trans HX2.out
  have HQ1 := aB e7
  clear k0 p0 p1 p2 p3 p4 hb e7 e1
  change Code.wp _ _ _ _ (V2.alloc (fC d.post))
  obtain ⟨y, hyd⟩ : ∃ y, V2.heap.size = y := ⟨_, rfl⟩
  rw [hyd] at hy ⊢
  generalize (V2.alloc (fC d.post)) = V3 at *
  have HY := aB hy
  have q0 : V3.cell? (aV y 0) = some (sV d.post.label) := aA 0 hy
  clear hyd hy
  go_cut [110] from 54 to 110 (fun c wx => ∃ b : Bool, c = .bool b /\ Hid (Below w.heap.size w wx /\ wx.heap[w.heap.size]? = some (ae n)) /\ Hid (b = false -> gW d.post.label = true /\ d.post.label ∉ bD (ds.take k) /\ (0 <= d.post.frm /\ d.post.frm < n.offs.length) /\ (0 <= d.post.dst /\ d.post.dst < n.offs.length) /\ (0 <= d.post.cls /\ d.post.cls < n.clss.length) /\ d.post.acc = d.time))
  case first =>
   go_wp2_with fail
   refine (rk d.post.label V3 (HLB.out d (aF HDE.out))).mono ?_
   rintro e W4 ⟨⟨b, rfl, hlb⟩, rfl⟩
   have HLA := aB hlb
   clear hlb
   cases b with
   | false =>
    clear q0
    go_wp2_with fail
    go_meet
    exact ⟨true, rfl, HW3, aB (fun h => by cases h)⟩
   | true =>
   have hkl : (ds.take k).length = k := by have := HLT.out; simp; omega
   have hpost := gh (some (aV db dof)) DC (ds.take k) d.post.label W4 (km HRD3.out k) (by have := HL.out; simp; omega)
   rw [hkl] at hpost
   have HPO := aB hpost
   clear hkl hpost
   go_wp2_with fail
   refine HPO.out.mono ?_
   rintro e V5 ⟨⟨v, rfl, hv1, hv2⟩, hb⟩
   have HW5 : Hid (Below w.heap.size w V5 /\ V5.heap[w.heap.size]? = some (ae n)) := ⟨HW3.out.1.trans (hb.mono HW3.out.1.size), (hb.block _ (aa HW3.out.2)).trans HW3.out.2⟩
   have hx5 := (hb.block _ (aa HX3.out)).trans HX3.out
   have hy5 := (hb.block _ (aa HY.out)).trans HY.out
   have HV := aB hv2
   have k1 : V5.cell? (aV x 1) = some (iV d.time) := aA 1 hx5
   have p1 : V5.cell? (aV y 1) = some (iV d.post.frm) := aA 1 hy5
   have p2 : V5.cell? (aV y 2) = some (iV d.post.dst) := aA 2 hy5
   have p3 : V5.cell? (aV y 3) = some (iV d.post.cls) := aA 3 hy5
   have p4 : V5.cell? (aV y 4) = some (iV d.post.acc) := aA 4 hy5
   have n3 : V5.cell? (aV w.heap.size 3) = some (.slice n.offA n.offs.length n.offC) := aA 3 HW5.out.2
   have n5 : V5.cell? (aV w.heap.size 5) = some (.slice n.clsA n.clss.length n.clsC) := aA 5 HW5.out.2
   clear q0 hb hx5 hy5 hv2
   by_cases c1 : 0 <= v
   case pos =>
    go_wp2_with fail
    go_meet
    exact ⟨true, rfl, HW5, aB (fun h => by cases h)⟩
   by_cases c2 : d.post.frm < 0
   case pos =>
    go_wp2_with fail
    go_meet
    exact ⟨true, rfl, HW5, aB (fun h => by cases h)⟩
   by_cases c3 : (n.offs.length : Int) <= d.post.frm
   case pos =>
    go_wp2_with fail
    go_meet
    exact ⟨true, rfl, HW5, aB (fun h => by cases h)⟩
   by_cases c4 : d.post.dst < 0
   case pos =>
    go_wp2_with fail
    go_meet
    exact ⟨true, rfl, HW5, aB (fun h => by cases h)⟩
   by_cases c5 : (n.offs.length : Int) <= d.post.dst
   case pos =>
    go_wp2_with fail
    go_meet
    exact ⟨true, rfl, HW5, aB (fun h => by cases h)⟩
   by_cases c6 : d.post.cls < 0
   case pos =>
    go_wp2_with fail
    go_meet
    exact ⟨true, rfl, HW5, aB (fun h => by cases h)⟩
   by_cases c7 : (n.clss.length : Int) <= d.post.cls
   case pos =>
    go_wp2_with fail
    go_meet
    exact ⟨true, rfl, HW5, aB (fun h => by cases h)⟩
   by_cases c8 : d.post.acc = d.time
   case neg =>
    have e8 : (d.post.acc != d.time) = true := by simpa using c8
    clear c8
    go_wp2_with fail
    go_meet
    exact ⟨true, rfl, HW5, aB (fun h => by cases h)⟩
   have e8 : (d.post.acc != d.time) = false := by simpa using c8
   have HC := aB (And.intro c1 (And.intro c2 (And.intro c3 (And.intro c4 (And.intro c5 (And.intro c6 (And.intro c7 c8)))))))
   clear c8
   go_wp2_with fail
   go_meet
   refine ⟨_, rfl, HW5, aB (fun _ => ?_)⟩
   obtain ⟨b1, b2, b3, b4, b5, b6, b7, b8⟩ := HC.out
   exact ⟨HLA.out (by simp), fun h => by have := HV.out.2 h; omega, ⟨by omega, by omega⟩, ⟨by omega, by omega⟩, ⟨by omega, by omega⟩, b8⟩
  case rest =>
  obtain ⟨b, rfl, HW5', HB⟩ := hcut
  cases b with
  | true =>
   clear q0
   go_wp2_with fail
   go_ret
   exact ⟨⟨false, rfl, fun h => by cases h⟩, HW5'.out.1⟩
  | false =>
  clear q0
  go_wp2_with fail
  have e7 : wrap64 ((k : Int) + 1) = ((k + 1 : Nat) : Int) := by
   have := HL.out
   have := HLT.out
   unfold wrap64
   omega
  rw [e7]
  refine ⟨⟨k + 1, q + 1, HLT.out, Nat.succ_le_succ hqk, by rw [HQ1.out], rfl, HW5', fun j e hj he => ?_⟩, ?_⟩
  ·by_cases hjk : j < k
   ·exact HO.out j e hjk he
   ·obtain rfl : j = k := by omega
    rw [HDE.out] at he
    cases he
    obtain ⟨a1, a2, a3⟩ := HT.out (by simp)
    exact ⟨a1, a2, a3, .inl ⟨H1.out, HB.out (by simp)⟩⟩
  ·have := HLT.out
   show ds.length + 1 - (((k + 1 : Nat) : Int)).toNat < ds.length + 1 - ((k : Int)).toNat
   omega
 have HN1 := aB h1
 have e1 : (d.kind == 1) = false := by simpa using h1
 clear h1
 have k7 : V2.cell? (aV x 7) = some (sV d.label) := aA 7 HX2.out
 by_cases h2 : d.kind = 2
 case pos =>
  have e2 : (d.kind == 2) = true := by simpa using h2
  have HK := aB h2
  clear h2
  have hkl : (ds.take k).length = k := by have := HLT.out; simp; omega
  have hpost := gh (some (aV db dof)) DC (ds.take k) d.label V2 (km HRD2.out k) (by have := HL.out; simp; omega)
  rw [hkl] at hpost
  have HPO5 := aB hpost
  clear hkl hpost
  go_wp2_with fail
  refine HPO5.out.mono ?_
  rintro e V5 ⟨⟨v5, rfl, hv1, hv2⟩, hb⟩
  have HW5 : Hid (Below w.heap.size w V5 /\ V5.heap[w.heap.size]? = some (ae n)) := ⟨HW2.out.1.trans (hb.mono HW2.out.1.size), (hb.block _ (aa HW2.out.2)).trans HW2.out.2⟩
  have HX5 : Hid (V5.heap[x]? = some (an d)) := (hb.block _ (aa HX2.out)).trans HX2.out
  have HRD5 := aB (HRD2.out.below hb)
  have HV5 := aB hv2
  clear hv1 hv2 hb
  clear k0 k7 e1 e2
  by_cases c1 : v5 < 0
  case pos =>
   go_wp2_with fail
   go_ret
   exact ⟨⟨false, rfl, fun h => by cases h⟩, HW5.out.1⟩
  go_wp2_with fail
  have e7 : wrap64 ((k : Int) + 1) = ((k + 1 : Nat) : Int) := by
   have := HL.out
   have := HLT.out
   unfold wrap64
   omega
  rw [e7]
  refine ⟨⟨k + 1, q, HLT.out, Nat.le_succ_of_le hqk, rfl, rfl, HW5, fun j e hj he => ?_⟩, ?_⟩
  ·by_cases hjk : j < k
   ·exact HO.out j e hjk he
   ·obtain rfl : j = k := by omega
    rw [HDE.out] at he
    cases he
    obtain ⟨a1, a2, a3⟩ := HT.out (by simp)
    exact ⟨a1, a2, a3, .inr (.inl ⟨.inl HK.out, HV5.out.1 (by omega)⟩)⟩
  ·have := HLT.out
   show ds.length + 1 - (((k + 1 : Nat) : Int)).toNat < ds.length + 1 - ((k : Int)).toNat
   omega
 have HN2 := aB h2
 have e2 : (d.kind == 2) = false := by simpa using h2
 clear h2
 by_cases h3 : d.kind = 3
 case pos =>
  have e3 : (d.kind == 3) = true := by simpa using h3
  have HK := aB h3
  clear h3
  have hkl : (ds.take k).length = k := by have := HLT.out; simp; omega
  have hpost := gh (some (aV db dof)) DC (ds.take k) d.label V2 (km HRD2.out k) (by have := HL.out; simp; omega)
  rw [hkl] at hpost
  have HPO5 := aB hpost
  clear hkl hpost
  go_wp2_with fail
  refine HPO5.out.mono ?_
  rintro e V5 ⟨⟨v5, rfl, hv1, hv2⟩, hb⟩
  have HW5 : Hid (Below w.heap.size w V5 /\ V5.heap[w.heap.size]? = some (ae n)) := ⟨HW2.out.1.trans (hb.mono HW2.out.1.size), (hb.block _ (aa HW2.out.2)).trans HW2.out.2⟩
  have HX5 : Hid (V5.heap[x]? = some (an d)) := (hb.block _ (aa HX2.out)).trans HX2.out
  have HRD5 := aB (HRD2.out.below hb)
  have HV5 := aB hv2
  clear hv1 hv2 hb
  clear k0 k7 e1 e2 e3
  by_cases c1 : v5 < 0
  case pos =>
   go_wp2_with fail
   go_ret
   exact ⟨⟨false, rfl, fun h => by cases h⟩, HW5.out.1⟩
  go_wp2_with fail
  have e7 : wrap64 ((k : Int) + 1) = ((k + 1 : Nat) : Int) := by
   have := HL.out
   have := HLT.out
   unfold wrap64
   omega
  rw [e7]
  refine ⟨⟨k + 1, q, HLT.out, Nat.le_succ_of_le hqk, rfl, rfl, HW5, fun j e hj he => ?_⟩, ?_⟩
  ·by_cases hjk : j < k
   ·exact HO.out j e hjk he
   ·obtain rfl : j = k := by omega
    rw [HDE.out] at he
    cases he
    obtain ⟨a1, a2, a3⟩ := HT.out (by simp)
    exact ⟨a1, a2, a3, .inr (.inl ⟨.inr HK.out, HV5.out.1 (by omega)⟩)⟩
  ·have := HLT.out
   show ds.length + 1 - (((k + 1 : Nat) : Int)).toNat < ds.length + 1 - ((k : Int)).toNat
   omega
 have HN3 := aB h3
 have e3 : (d.kind == 3) = false := by simpa using h3
 clear h3
 by_cases h4 : d.kind = 4
 case pos =>
  have e4 : (d.kind == 4) = true := by simpa using h4
  have HK := aB h4
  clear h4
  have hkl : (ds.take k).length = k := by have := HLT.out; simp; omega
  have hpost := gh (some (aV db dof)) DC (ds.take k) d.label V2 (km HRD2.out k) (by have := HL.out; simp; omega)
  rw [hkl] at hpost
  have HPO5 := aB hpost
  clear hkl hpost
  go_wp2_with fail
  refine HPO5.out.mono ?_
  rintro e V5 ⟨⟨v5, rfl, hv1, hv2⟩, hb⟩
  have HW5 : Hid (Below w.heap.size w V5 /\ V5.heap[w.heap.size]? = some (ae n)) := ⟨HW2.out.1.trans (hb.mono HW2.out.1.size), (hb.block _ (aa HW2.out.2)).trans HW2.out.2⟩
  have HX5 : Hid (V5.heap[x]? = some (an d)) := (hb.block _ (aa HX2.out)).trans HX2.out
  have HRD5 := aB (HRD2.out.below hb)
  have HV5 := aB hv2
  clear hv1 hv2 hb
  clear k0 k7 e1 e2 e3 e4
  by_cases c1 : v5 < 0
  case pos =>
   go_wp2_with fail
   go_ret
   exact ⟨⟨false, rfl, fun h => by cases h⟩, HW5.out.1⟩
  have k8 : V5.cell? (aV x 8) = some (sV d.other) := aA 8 HX5.out
  have HC1 : Hid (0 <= v5) := by show 0 <= v5; omega
  have hkl : (ds.take k).length = k := by have := HLT.out; simp; omega
  have hpost := gh (some (aV db dof)) DC (ds.take k) d.other V5 (km HRD5.out k) (by have := HL.out; simp; omega)
  rw [hkl] at hpost
  have HPO6 := aB hpost
  clear hkl hpost
  go_wp2_with fail
  refine HPO6.out.mono ?_
  rintro e V6 ⟨⟨v6, rfl, hv1, hv2⟩, hb⟩
  have HW6 : Hid (Below w.heap.size w V6 /\ V6.heap[w.heap.size]? = some (ae n)) := ⟨HW5.out.1.trans (hb.mono HW5.out.1.size), (hb.block _ (aa HW5.out.2)).trans HW5.out.2⟩
  have HX6 : Hid (V6.heap[x]? = some (an d)) := (hb.block _ (aa HX5.out)).trans HX5.out
  have HRD6 := aB (HRD5.out.below hb)
  have HV6 := aB hv2
  clear hv1 hv2 hb
  clear k8
  by_cases c2 : v6 < 0
  case pos =>
   go_wp2_with fail
   go_ret
   exact ⟨⟨false, rfl, fun h => by cases h⟩, HW6.out.1⟩
  have HC2 : Hid (0 <= v6) := by show 0 <= v6; omega
  have k7 : V6.cell? (aV x 7) = some (sV d.label) := aA 7 HX6.out
  have k8 : V6.cell? (aV x 8) = some (sV d.other) := aA 8 HX6.out
  by_cases c3 : d.label = d.other
  case pos =>
   have e8 : (d.label == d.other) = true := by simpa using c3
   clear c3
   go_wp2_with fail
   go_ret
   exact ⟨⟨false, rfl, fun h => by cases h⟩, HW6.out.1⟩
  have e8 : (d.label == d.other) = false := by simpa using c3
  have HC3 := aB c3
  clear c3
  go_wp2_with fail
  have e7 : wrap64 ((k : Int) + 1) = ((k + 1 : Nat) : Int) := by
   have := HL.out
   have := HLT.out
   unfold wrap64
   omega
  rw [e7]
  refine ⟨⟨k + 1, q, HLT.out, Nat.le_succ_of_le hqk, rfl, rfl, HW6, fun j e hj he => ?_⟩, ?_⟩
  ·by_cases hjk : j < k
   ·exact HO.out j e hjk he
   ·obtain rfl : j = k := by omega
    rw [HDE.out] at he
    cases he
    obtain ⟨a1, a2, a3⟩ := HT.out (by simp)
    exact ⟨a1, a2, a3, .inr (.inr (.inl ⟨HK.out, HV5.out.1 HC1.out, HV6.out.1 HC2.out, HC3.out⟩))⟩
  ·have := HLT.out
   show ds.length + 1 - (((k + 1 : Nat) : Int)).toNat < ds.length + 1 - ((k : Int)).toNat
   omega
 have HN4 := aB h4
 have e4 : (d.kind == 4) = false := by simpa using h4
 clear h4 k7
 have HW5 := HW2
 by_cases h5 : d.kind = 5
 case neg =>
  have e5 : (d.kind == 5) = false := by simpa using h5
  clear h5
  go_wp2_with fail
  go_ret
  exact ⟨⟨false, rfl, fun h => by cases h⟩, HW5.out.1⟩
 have e5 : (d.kind == 5) = true := by simpa using h5
 have HK := aB h5
 clear h5
 have k9 : V2.cell? (aV x 9) = some (iV d.line) := aA 9 HX2.out
 have n4 : V2.cell? (aV w.heap.size 4) = some (.slice n.linA n.lins.length n.linC) := aA 4 HW2.out.2
 by_cases c1 : d.line < 0
 case pos =>
  go_wp2_with fail
  go_ret
  exact ⟨⟨false, rfl, fun h => by cases h⟩, HW5.out.1⟩
 by_cases c2 : (n.lins.length : Int) <= d.line
 case pos =>
  go_wp2_with fail
  go_ret
  exact ⟨⟨false, rfl, fun h => by cases h⟩, HW5.out.1⟩
 have HC := aB (And.intro c1 c2)
 go_wp2_with fail
 have e7 : wrap64 ((k : Int) + 1) = ((k + 1 : Nat) : Int) := by
  have := HL.out
  have := HLT.out
  unfold wrap64
  omega
 rw [e7]
 refine ⟨⟨k + 1, q, HLT.out, Nat.le_succ_of_le hqk, rfl, rfl, HW5, fun j e hj he => ?_⟩, ?_⟩
 ·by_cases hjk : j < k
  ·exact HO.out j e hjk he
  ·obtain rfl : j = k := by omega
   rw [HDE.out] at he
   cases he
   obtain ⟨a1, a2, a3⟩ := HT.out (by simp)
   exact ⟨a1, a2, a3, .inr (.inr (.inr ⟨HK.out, by have := HC.out.1; omega, by have := HC.out.2; omega⟩))⟩
 ·have := HLT.out
  show ds.length + 1 - (((k + 1 : Nat) : Int)).toNat < ds.length + 1 - ((k : Int)).toNat
  omega
end Go.Proofs.YtpeaiphdkgifaaaGreatDoor
