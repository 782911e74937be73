/-
  The walk over the reference's test of deeds.
-/
import Derived.Test.YtpeaiphdkgifaaaGreatDoorWbj
import Derived.Test.YtpeaiphdkgifaaaGreatDoorWbd
namespace Go.Proofs.YtpeaiphdkgifaaaGreatDoor
open Go.RowKit
set_option maxHeartbeats 20000000
set_option maxRecDepth 100000
theorem rd_take {w : World} {A : Option Addr} {ds : List Ded} (h : Rd w A (ds.flatMap encD)) (k : Nat) : Rd w A ((ds.take k).flatMap encD) := by
 have e : ds.flatMap encD = (ds.take k).flatMap encD ++ (ds.drop k).flatMap encD := by rw [<- List.flatMap_append, List.take_append_drop]
 have h1 := h.take ((ds.take k).flatMap encD).length
 rw [e, List.take_left] at h1
 exact h1
def OkD (n : Net) (ds : List Ded) (i : Nat) (d : Ded) : Prop := 0 <= d.time /\ d.time <= 1000000 /\ (∀ e, 0 < i -> ds[i - 1]? = some e -> e.time <= d.time) /\ DedOk n (ds.take i) d
theorem rdeeds_any (n : Net) (DA : Option Addr) (DC : Nat) (ds : List Ded) (w : World) (hn : NetIn w n) (hds : Rd w DA (ds.flatMap encD)) (hl : ds.length <= 16) (hcap : ds.length <= DC) (hlab : ∀ d ∈ ds, d.post.label.length <= maxLen) :
  Calls Tryz.prog 37 #[netV n, .slice DA ds.length DC] w fun e w' => BoolR (fun b => b = true -> DedsOk n [] 0 ds) e /\ Below w.heap.size w w' := by
 have hb0 := ba w (netO n)
 have hx0 := heap_alloc_new w (netO n)
 have HN := Lib.hid hn
 have HDS := Lib.hid hds
 have HL := Lib.hid hl
 have HLB := Lib.hid hlab
 have HB0 := Lib.hid hb0
 have HX0 := Lib.hid hx0
 have HCP := Lib.hid hcap
 clear hn hds hl hlab hb0 hx0 hcap
 go_enter Tryz.func37, Tryz.ntmps37
 go_wp2
 generalize (w.alloc (netO n)) = V0 at *
 go_loopw [5, 6, 7, 8, 9] (fun c i _ _ _ wr => ∃ k q : Nat, k <= ds.length /\ q <= k /\ c = iV q /\ i = iV k /\ Hid (Below w.heap.size w wr /\ wr.heap[w.heap.size]? = some (netO n)) /\ Hid (∀ j d, j < k -> ds[j]? = some d -> OkD n ds j d)) (fun _ i _ _ _ _ => ds.length + 1 - (intOf i).toNat)
 case atStart => exact ⟨0, 0, Nat.zero_le _, Nat.le_refl _, rfl, rfl, ⟨HB0.out, HX0.out⟩, fun j d h => absurd h (Nat.not_lt_zero _)⟩
 case round =>
 obtain ⟨k, q, hk, hqk, rfl, rfl, HW, HO⟩ := hrel
 have j0 : (0 : Int) <= (k : Int) := by omega
 by_cases hlt : k < ds.length
 case neg =>
  have j1 : ¬ (k : Int) < (ds.length : Int) := by omega
  have HKE : Hid (k = ds.length) := by show k = ds.length; omega
  have e1 : (ds.length : Int) <= 120 := by have := HL.out; omega
  clear hlt
  go_wp2_with fail
  go_ret
  refine ⟨⟨_, rfl, fun _ => deds_all fun i d hi hd => ?_⟩, HW.out.1⟩
  exact HO.out i d (by rw [HKE.out]; exact hi) hd
 have j1 : (k : Int) < (ds.length : Int) := by omega
 have HLT := Lib.hid hlt
 obtain ⟨d, hd⟩ : ∃ d, ds[k]? = some d := ⟨_, List.getElem?_eq_getElem hlt⟩
 have hrd := HDS.out.below HW.out.1
 obtain ⟨-, db, dof, hDA, -, y0, yj⟩ := elem_at encD_len hrd hd (by omega)
 have z0 : wr.cell? ⟨db, dof + k * 10, none⟩ = some (iV d.kind) := y0 _ rfl
 have z1 : wr.cell? ⟨db, dof + k * 10 + 1, none⟩ = some (iV d.time) := yj 1 _ rfl
 have z2 : wr.cell? ⟨db, dof + k * 10 + 2, none⟩ = some (sV d.post.label) := yj 2 _ rfl
 have z3 : wr.cell? ⟨db, dof + k * 10 + 3, none⟩ = some (iV d.post.frm) := yj 3 _ rfl
 have z4 : wr.cell? ⟨db, dof + k * 10 + 4, none⟩ = some (iV d.post.dst) := yj 4 _ rfl
 have z5 : wr.cell? ⟨db, dof + k * 10 + 5, none⟩ = some (iV d.post.cls) := yj 5 _ rfl
 have z6 : wr.cell? ⟨db, dof + k * 10 + 6, none⟩ = some (iV d.post.acc) := yj 6 _ rfl
 have z7 : wr.cell? ⟨db, dof + k * 10 + 7, none⟩ = some (sV d.label) := yj 7 _ rfl
 have z8 : wr.cell? ⟨db, dof + k * 10 + 8, none⟩ = some (sV d.other) := yj 8 _ rfl
 have z9 : wr.cell? ⟨db, dof + k * 10 + 9, none⟩ = some (iV d.line) := yj 9 _ rfl
 have hprev : 0 < k -> ∃ p e, (k : Int) - 1 = (p : Nat) /\ p = k - 1 /\ ds[p]? = some e /\ wr.cell? ⟨db, dof + p * 10 + 1, none⟩ = some (iV e.time) := fun h => by
  obtain ⟨e, he⟩ : ∃ e, ds[k - 1]? = some e := ⟨_, List.getElem?_eq_getElem (by omega)⟩
  obtain ⟨-, db2, dof2, hDA2, -, -, yj2⟩ := elem_at encD_len hrd he (by omega)
  rw [hDA] at hDA2
  cases hDA2
  exact ⟨k - 1, e, by omega, rfl, he, yj2 1 _ rfl⟩
 have HDE := Lib.hid hd
 rw [hDA]
 have HRD := Lib.hid (hDA ▸ hrd)
 have HPR := Lib.hid hprev
 clear y0 yj hlt hd hDA hrd hprev
 go_upto_region 6 with fail
 have hb := ba wr (dedO d)
 have hx := heap_alloc_new wr (dedO d)
 have HW1 : Hid (Below w.heap.size w (wr.alloc (dedO d)) /\ (wr.alloc (dedO d)).heap[w.heap.size]? = some (netO n)) := ⟨HW.out.1.trans (hb.mono HW.out.1.size), (hb.block _ (block_lt HW.out.2)).trans HW.out.2⟩
 have HRD1 := Lib.hid (HRD.out.below hb)
 have HPR1 : Hid (0 < k -> ∃ p e, (k : Int) - 1 = (p : Nat) /\ p = k - 1 /\ ds[p]? = some e /\ (wr.alloc (dedO d)).cell? ⟨db, dof + p * 10 + 1, none⟩ = some (iV e.time)) := fun h => by
  obtain ⟨p, e, h1, h2, h3, h4⟩ := HPR.out h
  exact ⟨p, e, h1, h2, h3, cell_keepD hb h4⟩
 clear z0 z1 z2 z3 z4 z5 z6 z7 z8 z9 hb HPR
 change Code.wp _ _ _ _ (wr.alloc (dedO d))
 obtain ⟨x, hxd⟩ : ∃ x, wr.heap.size = x := ⟨_, rfl⟩
 rw [hxd] at hx ⊢
 generalize (wr.alloc (dedO d)) = V1 at *
 clear hxd
 have HX := Lib.hid hx
 have k1 : V1.cell? ⟨x, 1, none⟩ = some (iV d.time) := cell_of_row _ _ 1 _ _ _ hx
 clear hx
 go_cut [42] from 20 to 42 (fun c wx => ∃ b : Bool, c = .bool b /\ (∃ m, wx = V1.drewN m) /\ Hid (b = false -> 0 <= d.time /\ d.time <= 1000000 /\ ∀ e, 0 < k -> ds[k - 1]? = some e -> e.time <= d.time))
 case first =>
  by_cases g1 : d.time < 0
  case pos =>
   go_quiet (fail)
   go_wp2_with fail
   go_meet
   exact ⟨true, rfl, ⟨_, rfl⟩, Lib.hid (fun h => by cases h)⟩
  have G1 := Lib.hid g1
  by_cases g2 : 1000000 < d.time
  case pos =>
   clear g1
   have g1 : ¬ d.time < 0 := G1.out
   go_quiet (fail)
   go_wp2_with fail
   go_meet
   exact ⟨true, rfl, ⟨_, rfl⟩, Lib.hid (fun h => by cases h)⟩
  by_cases g3 : 0 < k
  case neg =>
   have g3' : ¬ (0 : Int) < (k : Int) := by omega
   have G2 := Lib.hid (And.intro g2 g3)
   go_quiet (fail)
   go_wp2_with fail
   go_meet
   exact ⟨false, rfl, ⟨_, rfl⟩, Lib.hid (fun _ => ⟨by have := G1.out; omega, by have := G2.out.1; omega, fun e h => absurd h G2.out.2⟩)⟩
  have g3' : (0 : Int) < (k : Int) := by omega
  obtain ⟨p, e, p1, p2, p3, p4⟩ := HPR1.out g3
  have hwp : wrap64 (p : Int) = (p : Int) := by
   have := HL.out
   have := HLT.out
   unfold wrap64
   omega
  have p5 : (0 : Int) <= (p : Int) := by omega
  have p6 : (p : Int) < (ds.length : Int) := by have := HLT.out; omega
  have G2 := Lib.hid (And.intro g2 (And.intro p2 p3))
  clear p2 p3
  by_cases g4 : d.time < e.time
  ·go_quiet (fail)
   go_wp2_with fail
   go_meet
   exact ⟨true, rfl, ⟨_, rfl⟩, Lib.hid (fun h => by cases h)⟩
  ·have G4 := Lib.hid g4
   go_quiet (fail)
   go_wp2_with fail
   go_meet
   refine ⟨false, rfl, ⟨_, rfl⟩, Lib.hid (fun _ => ⟨by have := G1.out; omega, by have := G2.out.1; omega, fun e' h h2 => ?_⟩)⟩
   rw [<- G2.out.2.1, G2.out.2.2] at h2
   cases h2
   have := G4.out
   omega
 case rest =>
 obtain ⟨b, rfl, ⟨m, rfl⟩, HT⟩ := hcut
 cases b with
 | true =>
  clear k1
  go_wp2_with fail
  go_ret
  exact ⟨⟨false, rfl, fun h => by cases h⟩, below_drewN HW1.out.1 _⟩
 | false =>
 clear k1
 have HW2 : Hid (Below w.heap.size w (V1.drewN m) /\ (V1.drewN m).heap[w.heap.size]? = some (netO n)) := ⟨below_drewN HW1.out.1 _, HW1.out.2⟩
 have HX2 : Hid ((V1.drewN m).heap[x]? = some (dedO d)) := HX.out
 have HRD2 : Hid (Rd (V1.drewN m) (some ⟨db, dof, none⟩) (ds.flatMap encD)) := HRD1.out.below (below_drewN (Below.refl _ _) _)
 clear HW HRD HW1 HX HRD1 HPR1
 generalize V1.drewN m = V2 at *
 have k0 : V2.cell? ⟨x, 0, none⟩ = some (iV d.kind) := cell_of_row _ _ 0 _ _ _ HX2.out
 have kc1 : (k : Int) <= (DC : Int) := by have := HCP.out; have := HLT.out; omega
 have kc2 : k <= DC := by have := HCP.out; have := HLT.out; omega
 go_upto_region 11 with fail
 by_cases h1 : d.kind = 1
 case pos =>
  have e1 : (d.kind == 1) = true := by simpa using h1
  have H1 := Lib.hid h1
  clear h1
  have p0 : V2.cell? ⟨x, 2, none⟩ = some (sV d.post.label) := cell_of_row _ _ 2 _ _ _ HX2.out
  have p1 : V2.cell? ⟨x, 3, none⟩ = some (iV d.post.frm) := cell_of_row _ _ 3 _ _ _ HX2.out
  have p2 : V2.cell? ⟨x, 4, none⟩ = some (iV d.post.dst) := cell_of_row _ _ 4 _ _ _ HX2.out
  have p3 : V2.cell? ⟨x, 5, none⟩ = some (iV d.post.cls) := cell_of_row _ _ 5 _ _ _ HX2.out
  have p4 : V2.cell? ⟨x, 6, none⟩ = some (iV d.post.acc) := cell_of_row _ _ 6 _ _ _ HX2.out
  have e7 : wrap64 ((q : Int) + 1) = ((q + 1 : Nat) : Int) := by
   have := HL.out
   have := HLT.out
   unfold wrap64
   omega
  go_upto_region 14 with fail
  have hb := ba V2 (postO d.post)
  have hy := heap_alloc_new V2 (postO d.post)
  have HW3 : Hid (Below w.heap.size w (V2.alloc (postO d.post)) /\ (V2.alloc (postO d.post)).heap[w.heap.size]? = some (netO n)) := ⟨HW2.out.1.trans (hb.mono HW2.out.1.size), (hb.block _ (block_lt HW2.out.2)).trans HW2.out.2⟩
  have HRD3 := Lib.hid (HRD2.out.below hb)
  have HX3 : Hid ((V2.alloc (postO d.post)).heap[x]? = some (dedO d)) := (hb.block _ (block_lt HX2.out)).trans HX2.out
  have HQ1 := Lib.hid e7
  clear k0 p0 p1 p2 p3 p4 hb e7 e1
  change Code.wp _ _ _ _ (V2.alloc (postO d.post))
  obtain ⟨y, hyd⟩ : ∃ y, V2.heap.size = y := ⟨_, rfl⟩
  rw [hyd] at hy ⊢
  generalize (V2.alloc (postO d.post)) = V3 at *
  have HY := Lib.hid hy
  have q0 : V3.cell? ⟨y, 0, none⟩ = some (sV d.post.label) := cell_of_row _ _ 0 _ _ _ hy
  clear hyd hy
  go_cut [110] from 54 to 110 (fun c wx => ∃ b : Bool, c = .bool b /\ Hid (Below w.heap.size w wx /\ wx.heap[w.heap.size]? = some (netO n)) /\ Hid (b = false -> labB d.post.label = true /\ d.post.label ∉ postedL (ds.take k) /\ (0 <= d.post.frm /\ d.post.frm < n.offs.length) /\ (0 <= d.post.dst /\ d.post.dst < n.offs.length) /\ (0 <= d.post.cls /\ d.post.cls < n.clss.length) /\ d.post.acc = d.time))
  case first =>
   go_wp2_with fail
   refine (rlabel_any d.post.label V3 (HLB.out d (List.mem_of_getElem? HDE.out))).mono ?_
   rintro e W4 ⟨⟨b, rfl, hlb⟩, rfl⟩
   have HLA := Lib.hid hlb
   clear hlb
   cases b with
   | false =>
    clear q0
    go_wp2_with fail
    go_meet
    exact ⟨true, rfl, HW3, Lib.hid (fun h => by cases h)⟩
   | true =>
   have hkl : (ds.take k).length = k := by have := HLT.out; simp; omega
   have hpost := posted_any (some ⟨db, dof, none⟩) DC (ds.take k) d.post.label W4 (rd_take HRD3.out k) (by have := HL.out; simp; omega)
   rw [hkl] at hpost
   have HPO := Lib.hid hpost
   clear hkl hpost
   go_wp2_with fail
   refine HPO.out.mono ?_
   rintro e V5 ⟨⟨v, rfl, hv1, hv2⟩, hb⟩
   have HW5 : Hid (Below w.heap.size w V5 /\ V5.heap[w.heap.size]? = some (netO n)) := ⟨HW3.out.1.trans (hb.mono HW3.out.1.size), (hb.block _ (block_lt HW3.out.2)).trans HW3.out.2⟩
   have hx5 := (hb.block _ (block_lt HX3.out)).trans HX3.out
   have hy5 := (hb.block _ (block_lt HY.out)).trans HY.out
   have HV := Lib.hid hv2
   have k1 : V5.cell? ⟨x, 1, none⟩ = some (iV d.time) := cell_of_row _ _ 1 _ _ _ hx5
   have p1 : V5.cell? ⟨y, 1, none⟩ = some (iV d.post.frm) := cell_of_row _ _ 1 _ _ _ hy5
   have p2 : V5.cell? ⟨y, 2, none⟩ = some (iV d.post.dst) := cell_of_row _ _ 2 _ _ _ hy5
   have p3 : V5.cell? ⟨y, 3, none⟩ = some (iV d.post.cls) := cell_of_row _ _ 3 _ _ _ hy5
   have p4 : V5.cell? ⟨y, 4, none⟩ = some (iV d.post.acc) := cell_of_row _ _ 4 _ _ _ hy5
   have n3 : V5.cell? ⟨w.heap.size, 3, none⟩ = some (.slice n.offA n.offs.length n.offC) := cell_of_row _ _ 3 _ _ _ HW5.out.2
   have n5 : V5.cell? ⟨w.heap.size, 5, none⟩ = some (.slice n.clsA n.clss.length n.clsC) := cell_of_row _ _ 5 _ _ _ HW5.out.2
   clear q0 hb hx5 hy5 hv2
   by_cases c1 : 0 <= v
   case pos =>
    go_wp2_with fail
    go_meet
    exact ⟨true, rfl, HW5, Lib.hid (fun h => by cases h)⟩
   by_cases c2 : d.post.frm < 0
   case pos =>
    go_wp2_with fail
    go_meet
    exact ⟨true, rfl, HW5, Lib.hid (fun h => by cases h)⟩
   by_cases c3 : (n.offs.length : Int) <= d.post.frm
   case pos =>
    go_wp2_with fail
    go_meet
    exact ⟨true, rfl, HW5, Lib.hid (fun h => by cases h)⟩
   by_cases c4 : d.post.dst < 0
   case pos =>
    go_wp2_with fail
    go_meet
    exact ⟨true, rfl, HW5, Lib.hid (fun h => by cases h)⟩
   by_cases c5 : (n.offs.length : Int) <= d.post.dst
   case pos =>
    go_wp2_with fail
    go_meet
    exact ⟨true, rfl, HW5, Lib.hid (fun h => by cases h)⟩
   by_cases c6 : d.post.cls < 0
   case pos =>
    go_wp2_with fail
    go_meet
    exact ⟨true, rfl, HW5, Lib.hid (fun h => by cases h)⟩
   by_cases c7 : (n.clss.length : Int) <= d.post.cls
   case pos =>
    go_wp2_with fail
    go_meet
    exact ⟨true, rfl, HW5, Lib.hid (fun h => by cases h)⟩
   by_cases c8 : d.post.acc = d.time
   case neg =>
    have e8 : (d.post.acc != d.time) = true := by simpa using c8
    clear c8
    go_wp2_with fail
    go_meet
    exact ⟨true, rfl, HW5, Lib.hid (fun h => by cases h)⟩
   have e8 : (d.post.acc != d.time) = false := by simpa using c8
   have HC := Lib.hid (And.intro c1 (And.intro c2 (And.intro c3 (And.intro c4 (And.intro c5 (And.intro c6 (And.intro c7 c8)))))))
   clear c8
   go_wp2_with fail
   go_meet
   refine ⟨_, rfl, HW5, Lib.hid (fun _ => ?_)⟩
   obtain ⟨b1, b2, b3, b4, b5, b6, b7, b8⟩ := HC.out
   exact ⟨HLA.out (by simp), fun h => by have := HV.out.2 h; omega, ⟨by omega, by omega⟩, ⟨by omega, by omega⟩, ⟨by omega, by omega⟩, b8⟩
  case rest =>
  obtain ⟨b, rfl, HW5', HB⟩ := hcut
  cases b with
  | true =>
   clear q0
   go_wp2_with fail
   go_ret
   exact ⟨⟨false, rfl, fun h => by cases h⟩, HW5'.out.1⟩
  | false =>
  clear q0
  go_wp2_with fail
  have e7 : wrap64 ((k : Int) + 1) = ((k + 1 : Nat) : Int) := by
   have := HL.out
   have := HLT.out
   unfold wrap64
   omega
  rw [e7]
  refine ⟨⟨k + 1, q + 1, HLT.out, Nat.succ_le_succ hqk, by rw [HQ1.out], rfl, HW5', fun j e hj he => ?_⟩, ?_⟩
  ·by_cases hjk : j < k
   ·exact HO.out j e hjk he
   ·obtain rfl : j = k := by omega
    rw [HDE.out] at he
    cases he
    obtain ⟨a1, a2, a3⟩ := HT.out (by simp)
    exact ⟨a1, a2, a3, .inl ⟨H1.out, HB.out (by simp)⟩⟩
  ·have := HLT.out
   show ds.length + 1 - (((k + 1 : Nat) : Int)).toNat < ds.length + 1 - ((k : Int)).toNat
   omega
 have HN1 := Lib.hid h1
 have e1 : (d.kind == 1) = false := by simpa using h1
 clear h1
 have k7 : V2.cell? ⟨x, 7, none⟩ = some (sV d.label) := cell_of_row _ _ 7 _ _ _ HX2.out
 by_cases h2 : d.kind = 2
 case pos =>
  have e2 : (d.kind == 2) = true := by simpa using h2
  have HK := Lib.hid h2
  clear h2
  have hkl : (ds.take k).length = k := by have := HLT.out; simp; omega
  have hpost := posted_any (some ⟨db, dof, none⟩) DC (ds.take k) d.label V2 (rd_take HRD2.out k) (by have := HL.out; simp; omega)
  rw [hkl] at hpost
  have HPO5 := Lib.hid hpost
  clear hkl hpost
  go_wp2_with fail
  refine HPO5.out.mono ?_
  rintro e V5 ⟨⟨v5, rfl, hv1, hv2⟩, hb⟩
  have HW5 : Hid (Below w.heap.size w V5 /\ V5.heap[w.heap.size]? = some (netO n)) := ⟨HW2.out.1.trans (hb.mono HW2.out.1.size), (hb.block _ (block_lt HW2.out.2)).trans HW2.out.2⟩
  have HX5 : Hid (V5.heap[x]? = some (dedO d)) := (hb.block _ (block_lt HX2.out)).trans HX2.out
  have HRD5 := Lib.hid (HRD2.out.below hb)
  have HV5 := Lib.hid hv2
  clear hv1 hv2 hb
  clear k0 k7 e1 e2
  by_cases c1 : v5 < 0
  case pos =>
   go_wp2_with fail
   go_ret
   exact ⟨⟨false, rfl, fun h => by cases h⟩, HW5.out.1⟩
  go_wp2_with fail
  have e7 : wrap64 ((k : Int) + 1) = ((k + 1 : Nat) : Int) := by
   have := HL.out
   have := HLT.out
   unfold wrap64
   omega
  rw [e7]
  refine ⟨⟨k + 1, q, HLT.out, Nat.le_succ_of_le hqk, rfl, rfl, HW5, fun j e hj he => ?_⟩, ?_⟩
  ·by_cases hjk : j < k
   ·exact HO.out j e hjk he
   ·obtain rfl : j = k := by omega
    rw [HDE.out] at he
    cases he
    obtain ⟨a1, a2, a3⟩ := HT.out (by simp)
    exact ⟨a1, a2, a3, .inr (.inl ⟨.inl HK.out, HV5.out.1 (by omega)⟩)⟩
  ·have := HLT.out
   show ds.length + 1 - (((k + 1 : Nat) : Int)).toNat < ds.length + 1 - ((k : Int)).toNat
   omega
 have HN2 := Lib.hid h2
 have e2 : (d.kind == 2) = false := by simpa using h2
 clear h2
 by_cases h3 : d.kind = 3
 case pos =>
  have e3 : (d.kind == 3) = true := by simpa using h3
  have HK := Lib.hid h3
  clear h3
  have hkl : (ds.take k).length = k := by have := HLT.out; simp; omega
  have hpost := posted_any (some ⟨db, dof, none⟩) DC (ds.take k) d.label V2 (rd_take HRD2.out k) (by have := HL.out; simp; omega)
  rw [hkl] at hpost
  have HPO5 := Lib.hid hpost
  clear hkl hpost
  go_wp2_with fail
  refine HPO5.out.mono ?_
  rintro e V5 ⟨⟨v5, rfl, hv1, hv2⟩, hb⟩
  have HW5 : Hid (Below w.heap.size w V5 /\ V5.heap[w.heap.size]? = some (netO n)) := ⟨HW2.out.1.trans (hb.mono HW2.out.1.size), (hb.block _ (block_lt HW2.out.2)).trans HW2.out.2⟩
  have HX5 : Hid (V5.heap[x]? = some (dedO d)) := (hb.block _ (block_lt HX2.out)).trans HX2.out
  have HRD5 := Lib.hid (HRD2.out.below hb)
  have HV5 := Lib.hid hv2
  clear hv1 hv2 hb
  clear k0 k7 e1 e2 e3
  by_cases c1 : v5 < 0
  case pos =>
   go_wp2_with fail
   go_ret
   exact ⟨⟨false, rfl, fun h => by cases h⟩, HW5.out.1⟩
  go_wp2_with fail
  have e7 : wrap64 ((k : Int) + 1) = ((k + 1 : Nat) : Int) := by
   have := HL.out
   have := HLT.out
   unfold wrap64
   omega
  rw [e7]
  refine ⟨⟨k + 1, q, HLT.out, Nat.le_succ_of_le hqk, rfl, rfl, HW5, fun j e hj he => ?_⟩, ?_⟩
  ·by_cases hjk : j < k
   ·exact HO.out j e hjk he
   ·obtain rfl : j = k := by omega
    rw [HDE.out] at he
    cases he
    obtain ⟨a1, a2, a3⟩ := HT.out (by simp)
    exact ⟨a1, a2, a3, .inr (.inl ⟨.inr HK.out, HV5.out.1 (by omega)⟩)⟩
  ·have := HLT.out
   show ds.length + 1 - (((k + 1 : Nat) : Int)).toNat < ds.length + 1 - ((k : Int)).toNat
   omega
 have HN3 := Lib.hid h3
 have e3 : (d.kind == 3) = false := by simpa using h3
 clear h3
 by_cases h4 : d.kind = 4
 case pos =>
  have e4 : (d.kind == 4) = true := by simpa using h4
  have HK := Lib.hid h4
  clear h4
  have hkl : (ds.take k).length = k := by have := HLT.out; simp; omega
  have hpost := posted_any (some ⟨db, dof, none⟩) DC (ds.take k) d.label V2 (rd_take HRD2.out k) (by have := HL.out; simp; omega)
  rw [hkl] at hpost
  have HPO5 := Lib.hid hpost
  clear hkl hpost
  go_wp2_with fail
  refine HPO5.out.mono ?_
  rintro e V5 ⟨⟨v5, rfl, hv1, hv2⟩, hb⟩
  have HW5 : Hid (Below w.heap.size w V5 /\ V5.heap[w.heap.size]? = some (netO n)) := ⟨HW2.out.1.trans (hb.mono HW2.out.1.size), (hb.block _ (block_lt HW2.out.2)).trans HW2.out.2⟩
  have HX5 : Hid (V5.heap[x]? = some (dedO d)) := (hb.block _ (block_lt HX2.out)).trans HX2.out
  have HRD5 := Lib.hid (HRD2.out.below hb)
  have HV5 := Lib.hid hv2
  clear hv1 hv2 hb
  clear k0 k7 e1 e2 e3 e4
  by_cases c1 : v5 < 0
  case pos =>
   go_wp2_with fail
   go_ret
   exact ⟨⟨false, rfl, fun h => by cases h⟩, HW5.out.1⟩
  have k8 : V5.cell? ⟨x, 8, none⟩ = some (sV d.other) := cell_of_row _ _ 8 _ _ _ HX5.out
  have HC1 : Hid (0 <= v5) := by show 0 <= v5; omega
  have hkl : (ds.take k).length = k := by have := HLT.out; simp; omega
  have hpost := posted_any (some ⟨db, dof, none⟩) DC (ds.take k) d.other V5 (rd_take HRD5.out k) (by have := HL.out; simp; omega)
  rw [hkl] at hpost
  have HPO6 := Lib.hid hpost
  clear hkl hpost
  go_wp2_with fail
  refine HPO6.out.mono ?_
  rintro e V6 ⟨⟨v6, rfl, hv1, hv2⟩, hb⟩
  have HW6 : Hid (Below w.heap.size w V6 /\ V6.heap[w.heap.size]? = some (netO n)) := ⟨HW5.out.1.trans (hb.mono HW5.out.1.size), (hb.block _ (block_lt HW5.out.2)).trans HW5.out.2⟩
  have HX6 : Hid (V6.heap[x]? = some (dedO d)) := (hb.block _ (block_lt HX5.out)).trans HX5.out
  have HRD6 := Lib.hid (HRD5.out.below hb)
  have HV6 := Lib.hid hv2
  clear hv1 hv2 hb
  clear k8
  by_cases c2 : v6 < 0
  case pos =>
   go_wp2_with fail
   go_ret
   exact ⟨⟨false, rfl, fun h => by cases h⟩, HW6.out.1⟩
  have HC2 : Hid (0 <= v6) := by show 0 <= v6; omega
  have k7 : V6.cell? ⟨x, 7, none⟩ = some (sV d.label) := cell_of_row _ _ 7 _ _ _ HX6.out
  have k8 : V6.cell? ⟨x, 8, none⟩ = some (sV d.other) := cell_of_row _ _ 8 _ _ _ HX6.out
  by_cases c3 : d.label = d.other
  case pos =>
   have e8 : (d.label == d.other) = true := by simpa using c3
   clear c3
   go_wp2_with fail
   go_ret
   exact ⟨⟨false, rfl, fun h => by cases h⟩, HW6.out.1⟩
  have e8 : (d.label == d.other) = false := by simpa using c3
  have HC3 := Lib.hid c3
  clear c3
  go_wp2_with fail
  have e7 : wrap64 ((k : Int) + 1) = ((k + 1 : Nat) : Int) := by
   have := HL.out
   have := HLT.out
   unfold wrap64
   omega
  rw [e7]
  refine ⟨⟨k + 1, q, HLT.out, Nat.le_succ_of_le hqk, rfl, rfl, HW6, fun j e hj he => ?_⟩, ?_⟩
  ·by_cases hjk : j < k
   ·exact HO.out j e hjk he
   ·obtain rfl : j = k := by omega
    rw [HDE.out] at he
    cases he
    obtain ⟨a1, a2, a3⟩ := HT.out (by simp)
    exact ⟨a1, a2, a3, .inr (.inr (.inl ⟨HK.out, HV5.out.1 HC1.out, HV6.out.1 HC2.out, HC3.out⟩))⟩
  ·have := HLT.out
   show ds.length + 1 - (((k + 1 : Nat) : Int)).toNat < ds.length + 1 - ((k : Int)).toNat
   omega
 have HN4 := Lib.hid h4
 have e4 : (d.kind == 4) = false := by simpa using h4
 clear h4 k7
 have HW5 := HW2
 by_cases h5 : d.kind = 5
 case neg =>
  have e5 : (d.kind == 5) = false := by simpa using h5
  clear h5
  go_wp2_with fail
  go_ret
  exact ⟨⟨false, rfl, fun h => by cases h⟩, HW5.out.1⟩
 have e5 : (d.kind == 5) = true := by simpa using h5
 have HK := Lib.hid h5
 clear h5
 have k9 : V2.cell? ⟨x, 9, none⟩ = some (iV d.line) := cell_of_row _ _ 9 _ _ _ HX2.out
 have n4 : V2.cell? ⟨w.heap.size, 4, none⟩ = some (.slice n.linA n.lins.length n.linC) := cell_of_row _ _ 4 _ _ _ HW2.out.2
 by_cases c1 : d.line < 0
 case pos =>
  go_wp2_with fail
  go_ret
  exact ⟨⟨false, rfl, fun h => by cases h⟩, HW5.out.1⟩
 by_cases c2 : (n.lins.length : Int) <= d.line
 case pos =>
  go_wp2_with fail
  go_ret
  exact ⟨⟨false, rfl, fun h => by cases h⟩, HW5.out.1⟩
 have HC := Lib.hid (And.intro c1 c2)
 go_wp2_with fail
 have e7 : wrap64 ((k : Int) + 1) = ((k + 1 : Nat) : Int) := by
  have := HL.out
  have := HLT.out
  unfold wrap64
  omega
 rw [e7]
 refine ⟨⟨k + 1, q, HLT.out, Nat.le_succ_of_le hqk, rfl, rfl, HW5, fun j e hj he => ?_⟩, ?_⟩
 ·by_cases hjk : j < k
  ·exact HO.out j e hjk he
  ·obtain rfl : j = k := by omega
   rw [HDE.out] at he
   cases he
   obtain ⟨a1, a2, a3⟩ := HT.out (by simp)
   exact ⟨a1, a2, a3, .inr (.inr (.inr ⟨HK.out, by have := HC.out.1; omega, by have := HC.out.2; omega⟩))⟩
 ·have := HLT.out
  show ds.length + 1 - (((k + 1 : Nat) : Int)).toNat < ds.length + 1 - ((k : Int)).toNat
  omega
end Go.Proofs.YtpeaiphdkgifaaaGreatDoor
