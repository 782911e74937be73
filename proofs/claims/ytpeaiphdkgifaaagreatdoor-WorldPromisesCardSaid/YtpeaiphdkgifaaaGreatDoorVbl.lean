/- The walk over the law's test of its arguments. Plans, Posts and deeds -/
import Derived.Test.YtpeaiphdkgifaaaGreatDoorVbg
import Derived.Test.YtpeaiphdkgifaaaGreatDoorVbi
import Derived.Test.YtpeaiphdkgifaaaGreatDoorVav
import Derived.Test.YtpeaiphdkgifaaaGreatDoorVbk
import Derived.Test.YtpeaiphdkgifaaaGreatDoorVbj
import Derived.Test.YtpeaiphdkgifaaaGreatDoorVay
import Derived.Test.YtpeaiphdkgifaaaGreatDoorVbd
import Derived.Test.YtpeaiphdkgifaaaGreatDoorCards
import Derived.Test.YtpeaiphdkgifaaaGreatDoorTie
import Derived.Lib.LaidTab
namespace Go.Proofs.YtpeaiphdkgifaaaGreatDoor
open Go.RowKit
set_option maxHeartbeats 20000000
set_option maxRecDepth 100000
section
attribute [local go_sem] Oper.semAt_some
structure kK (n : Net) (nx : List NsC) (ds : List Ded) : Prop where
 few : gx n
 six : n.offs.length <= 6
 deds : ds.length <= 16
 sound : bM n
 form : bi n nx
 ok : bK n [] 0 ds
theorem wB (n : Net) (fr till : Int) (nx : List NsC) (nxA : Option Addr) (nxC : Nat) (D : Option Addr) (dl dc : Nat) (DA : Option Addr) (DC : Nat) (ds : List Ded) (w : World) (hn : bj w n) (hT : Tab w nxA nx) (hx : nx.length <= maxLen) (hds : Rd w DA (ds.flatMap eW)) (hcap : ds.length <= DC) (hlab : ∀ d ∈ ds, d.post.label.length <= maxLen) :
  Calls Tryz.prog 12 #[bB n, dI fr till nxA nx.length nxC D dl dc, .slice DA ds.length DC] w fun e w' => ij (fun b => b = true -> kK n nx ds) e /\ Below w.heap.size w w' := by
 go_enter Tryz.func12, Tryz.ntmps12
 go_upto_region 1 with fail
 have hb5 := bv (dq n fr till nxA nx.length nxC D dl dc) w
 have hg5 := bN (dq n fr till nxA nx.length nxC D dl dc) w
 have q0 : (au w (dq n fr till nxA nx.length nxC D dl dc)).heap[w.heap.size]? = some (ae n) := hg5 0 _ rfl
 have q1 : (au w (dq n fr till nxA nx.length nxC D dl dc)).heap[w.heap.size + 1]? = some (mq fr till nxA nx.length nxC D dl dc) := hg5 1 _ rfl
 change Code.wp _ _ _ _ (au w (dq n fr till nxA nx.length nxC D dl dc))
 generalize au w (dq n fr till nxA nx.length nxC D dl dc) = V1 at *
 have HW : Hid (Below w.heap.size w V1) := hb5
 have HH := aB (And.intro hn (And.intro hT (And.intro hx (And.intro hds (And.intro hcap hlab)))))
 generalize w.heap.size = X at q0 q1 hb5 ⊢
 have HC0 : Hid (∀ V : World, V.heap[X]? = some (ae n) -> V.heap[X + 1]? = some (mq fr till nxA nx.length nxC D dl dc) -> (V.cell? (aV X 0) = some (.slice n.calA n.cals.length n.calC) /\ V.cell? (aV X 1) = some (.slice n.namA n.names.length n.namC) /\ V.cell? (aV X 2) = some (.slice n.opA n.ops.length n.opC) /\ V.cell? (aV X 3) = some (.slice n.offA n.offs.length n.offC) /\ V.cell? (aV X 4) = some (.slice n.linA n.lins.length n.linC) /\ V.cell? (aV X 5) = some (.slice n.clsA n.clss.length n.clsC)) /\ V.cell? (aV (X + 1) 0) = some (iV fr) /\ V.cell? (aV (X + 1) 1) = some (iV till) /\ V.cell? (aV (X + 1) 2) = some (.slice nxA nx.length nxC) /\ V.cell? (aV (X + 1) 3) = some (.slice D dl dc)) := fun V h h' => ⟨fj h, aA 0 h', aA 1 h', aA 2 h', aA 3 h'⟩
 obtain ⟨⟨c0, c1, c2, c3, c4, c5⟩, p0, p1, p2, p3⟩ := HC0.out V1 q0 q1
 have HQ := aB (And.intro q0 q1)
 clear hb5 hg5 q0 q1 hn hT hx hds hcap hlab
 go_wp2_with fail
 refine (uS n fr till nx nxA nxC D dl dc DA ds.length DC V1 (HH.out.1.below HW.out) (HH.out.2.1.below HW.out) HH.out.2.2.1).mono ?_
 rintro e V2 ⟨⟨b, rfl, hs⟩, hb⟩
 have HW2 : Hid (Below w.heap.size w V2) := HW.out.trans (hb.mono HW.out.size)
 have hq0 := (hb.block _ (aa HQ.out.1)).trans HQ.out.1
 have hq1 := (hb.block _ (aa HQ.out.2)).trans HQ.out.2
 clear c0 c1 c2 c3 c4 c5 p0 p1 p2 p3 hb HQ
 have HSS := aB hs
 clear hs
 cases b with
 | false =>
  clear hq0 hq1
  go_wp2_with fail
  go_ret
  exact ⟨⟨false, rfl, fun h => by cases h⟩, HW2.out⟩
 | true =>
 have HF := aB (HSS.out rfl)
 clear HSS
 have HQ := aB (And.intro hq0 hq1)
 obtain ⟨⟨c0, c1, c2, c3, c4, c5⟩, p0, p1, p2, p3⟩ := HC0.out V2 hq0 hq1
 clear hq0 hq1
 go_wp2_with fail
 refine (tI n fr till nx nxA nxC D dl dc V2 (HH.out.1.below HW2.out) (HH.out.2.1.below HW2.out) HH.out.2.2.1 HF.out.1.1).mono ?_
 rintro e V3 ⟨⟨b, rfl, hs⟩, hb⟩
 have HW3 : Hid (Below w.heap.size w V3) := HW2.out.trans (hb.mono HW2.out.size)
 have hq0 := (hb.block _ (aa HQ.out.1)).trans HQ.out.1
 have hq1 := (hb.block _ (aa HQ.out.2)).trans HQ.out.2
 clear c0 c1 c2 c3 c4 c5 p0 p1 p2 p3 hb HQ
 have HSS := aB hs
 clear hs
 cases b with
 | false =>
  clear hq0 hq1
  go_wp2_with fail
  go_ret
  exact ⟨⟨false, rfl, fun h => by cases h⟩, HW3.out⟩
 | true =>
 have HG := aB (HSS.out rfl)
 clear HSS
 obtain ⟨⟨c0, c1, c2, c3, c4, c5⟩, p0, p1, p2, p3⟩ := HC0.out V3 hq0 hq1
 clear hq0 hq1
 go_wp2_with fail
 refine (rm n DA DC ds V3 (HH.out.1.below HW3.out) (HH.out.2.2.2.1.below HW3.out) HF.out.2 HH.out.2.2.2.2.1 HH.out.2.2.2.2.2).mono ?_
 rintro e V4 ⟨⟨b, rfl, hs⟩, hb⟩
 have HW4 : Hid (Below w.heap.size w V4) := HW3.out.trans (hb.mono HW3.out.size)
 have HSS := aB hs
 clear c0 c1 c2 c3 c4 c5 p0 p1 p2 p3 hb hs
 go_wp2_with fail
 go_ret
 exact ⟨⟨b, rfl, fun h => ⟨HF.out.1.1, HF.out.1.2, HF.out.2, HG.out.1, (et).1 HG.out.2, HSS.out h⟩⟩, HW4.out⟩
end
section
open Go.ChangeShapes Go.WideShapes Go.ChangeAt Go.RowKit Go.WideMaps Go.WideElems
theorem wS : Tryz.prog.cellsOf 30 = 1 := by kernel_rfl
theorem uF : Tryz.prog.cellsOf 31 = 1 := by kernel_rfl
theorem uC : Tryz.prog.cellsOf 33 = 4 := by kernel_rfl
theorem oc : Tryz.prog.cellsOf 42 = 5 := by kernel_rfl
theorem od : Tryz.prog.cellsOf 44 = 10 := by kernel_rfl
def encP (p : Pst) : List Value := [sV p.label, iV p.frm, iV p.dst, iV p.cls, iV p.acc]
def rW (p : Pst) : Prop := p.label.length <= maxLen /\ I64 p.frm /\ I64 p.dst /\ I64 p.cls /\ I64 p.acc
structure sP (d : Ded) : Prop where
 kind : I64 d.kind
 time : I64 d.time
 post : rW d.post
 lab : d.label.length <= maxLen
 oth : d.other.length <= maxLen
 line : I64 d.line
section
variable {H : Type} {enc : TypeId × Value -> H} {W : World}
theorem tab_of {fuel : Nat} {cs : List Value} {x : DataW H × List MemPlace} (h : DataW.trod enc Tryz.prog W 0 (fun _ => true) true fuel 30 cs = some x) :
  ∃ A c nx, cs = [.slice A (List.length nx) c] /\ Tab W A nx /\ nx.length <= maxLen := by
 obtain ⟨A, c, ws, h1, h2, h3, h4, h5⟩ := dH (f := fun x : NsC => [slI x]) (Q := fun x => Rd W x.A (x.ns.map iV) /\ (∀ n ∈ x.ns, I64 n) /\ x.ns.length <= maxLen) 1 (by decide) Tryz.underlying30 kZ (fun _ => rfl)
  (fun _ _ _ h => by obtain ⟨A, c, ns, g1, g2, g3, g4⟩ := oK h; exact ⟨⟨ns, A, c⟩, g1, g2, g4, g3⟩) h
 rw [ja] at h2
 exact ⟨A, c, ws, h1, ⟨h2, h5⟩, aG h3 h4⟩
theorem dtab_of {fuel : Nat} {cs : List Value} {x : DataW H × List MemPlace} (h : DataW.trod enc Tryz.prog W 0 (fun _ => true) true fuel 31 cs = some x) : ∃ A n c, cs = [.slice A n c] := by
 rcases Deep.open_slice Tryz.underlying31 h with ⟨hcs, hx⟩ | ⟨a, len, cap, m, n, D, Pl, hcs, -⟩
 ·exact ⟨none, 0, 0, hcs⟩
 ·exact ⟨some a, len, _, hcs⟩
theorem sv {fuel : Nat} {cs : List Value} {x : DataW H × List MemPlace} (h : DataW.trod enc Tryz.prog W 0 (fun _ => true) true fuel 42 cs = some x) : ∃ p : Pst, cs = encP p /\ rW p := by
 obtain ⟨xs, m, _, _, hlen, hxl, hf⟩ := DataW.trod_struct Tryz.underlying42 h
 rw [oc] at hlen
 have hxl' : xs.length = 5 := hxl
 obtain ⟨y0, h0⟩ := fld (o := 0) eS (by rw [hxl']; decide) (hf 0 _ rfl)
 obtain ⟨x0, e0, f0⟩ := iR h0
 obtain ⟨y1, h1⟩ := fld (o := 1) bJ (by rw [hxl']; decide) (hf 1 _ rfl)
 obtain ⟨x1, e1, f1⟩ := cJ h1
 obtain ⟨y2, h2⟩ := fld (o := 2) bJ (by rw [hxl']; decide) (hf 2 _ rfl)
 obtain ⟨x2, e2, f2⟩ := cJ h2
 obtain ⟨y3, h3⟩ := fld (o := 3) bJ (by rw [hxl']; decide) (hf 3 _ rfl)
 obtain ⟨x3, e3, f3⟩ := cJ h3
 obtain ⟨y4, h4⟩ := fld (o := 4) bJ (by rw [hxl']; decide) (hf 4 _ rfl)
 obtain ⟨x4, e4, f4⟩ := cJ h4
 have hcs : cs = [sV x0, iV x1, iV x2, iV x3, iV x4] := by
  have hend : cs.drop 5 = [] := List.drop_eq_nil_of_le (by omega)
  have h00 : cs = cs.drop 0 := rfl
  rw [h00, cut cs 0 1, e0, show 0 + 1 = 1 from rfl, cut cs 1 1, e1, show 1 + 1 = 2 from rfl, cut cs 2 1, e2, show 2 + 1 = 3 from rfl, cut cs 3 1, e3, show 3 + 1 = 4 from rfl, cut cs 4 1, e4, show 4 + 1 = 5 from rfl, hend]
  rfl
 exact ⟨⟨x0, x1, x2, x3, x4⟩, hcs, f0, f1, f2, f3, f4⟩
theorem deed_of {fuel : Nat} {cs : List Value} {x : DataW H × List MemPlace} (h : DataW.trod enc Tryz.prog W 0 (fun _ => true) true fuel 44 cs = some x) : ∃ d : Ded, cs = eW d /\ sP d := by
 obtain ⟨xs, m, _, _, hlen, hxl, hf⟩ := DataW.trod_struct Tryz.underlying44 h
 rw [od] at hlen
 have hxl' : xs.length = 6 := hxl
 obtain ⟨y0, h0⟩ := fld (o := 0) bJ (by rw [hxl']; decide) (hf 0 _ rfl)
 obtain ⟨x0, e0, f0⟩ := cJ h0
 obtain ⟨y1, h1⟩ := fld (o := 1) bJ (by rw [hxl']; decide) (hf 1 _ rfl)
 obtain ⟨x1, e1, f1⟩ := cJ h1
 obtain ⟨y2, h2⟩ := fld (o := 2) oc (by rw [hxl']; decide) (hf 2 _ rfl)
 obtain ⟨x2, e2, f2⟩ := sv h2
 obtain ⟨y3, h3⟩ := fld (o := 7) eS (by rw [hxl']; decide) (hf 3 _ rfl)
 obtain ⟨x3, e3, f3⟩ := iR h3
 obtain ⟨y4, h4⟩ := fld (o := 8) eS (by rw [hxl']; decide) (hf 4 _ rfl)
 obtain ⟨x4, e4, f4⟩ := iR h4
 obtain ⟨y5, h5⟩ := fld (o := 9) bJ (by rw [hxl']; decide) (hf 5 _ rfl)
 obtain ⟨x5, e5, f5⟩ := cJ h5
 have hcs : cs = [iV x0] ++ ([iV x1] ++ (encP x2 ++ ([sV x3] ++ ([sV x4] ++ [iV x5])))) := by
  have hend : cs.drop 10 = [] := List.drop_eq_nil_of_le (by omega)
  have h00 : cs = cs.drop 0 := rfl
  rw [h00, cut cs 0 1, e0, show 0 + 1 = 1 from rfl, cut cs 1 1, e1, show 1 + 1 = 2 from rfl, cut cs 2 5, e2, show 2 + 5 = 7 from rfl, cut cs 7 1, e3, show 7 + 1 = 8 from rfl, cut cs 8 1, e4, show 8 + 1 = 9 from rfl, cut cs 9 1, e5, show 9 + 1 = 10 from rfl, hend]
  rfl
 exact ⟨⟨x0, x1, x2, x3, x4, x5⟩, hcs, f0, f1, f2, f3, f4, f5⟩
theorem tO {base : Nat} {v : Value} {d : DataW H} {ps : List MemPlace} (hval : Value.okWide Tryz.prog W .any base 34 v) (h : DataW.Trod enc Tryz.prog W 0 (fun _ => true) true 34 v d ps) :
  ∃ A c ds, v = .slice A (List.length ds) c /\ Rd W A (ds.flatMap eW) /\ ds.length <= c /\ c <= maxLen /\ ∀ d ∈ ds, sP d := by
 obtain ⟨A, len, cap, rfl⟩ := okWide_slice Tryz.underlying34 hval
 obtain ⟨fuel, hf⟩ := h
 obtain ⟨A', c, ws, h1, h2, h3, h4, h5⟩ := dH (f := eW) (Q := sP) 10 (by decide) Tryz.underlying34 od hU (fun _ _ _ h => deed_of h) hf
 simp [Value.cells] at h1
 obtain ⟨rfl, rfl, rfl⟩ := h1
 exact ⟨_, _, ws, rfl, h2, h3, h4, h5⟩
theorem open_post {base : Nat} {v : Value} {d : DataW H} {ps : List MemPlace} (hval : Value.okWide Tryz.prog W .any base 42 v) (h : DataW.Trod enc Tryz.prog W 0 (fun _ => true) true 42 v d ps) :
  ∃ p : Pst, v = .agg #[sV p.label, iV p.frm, iV p.dst, iV p.cls, iV p.acc] /\ rW p := by
 have hv : ∃ cs, v = .agg cs := by
  unfold Value.okWide at hval
  rw [Tryz.underlying42] at hval
  obtain ⟨cs, hcs, _⟩ := hval
  exact ⟨cs, hcs⟩
 obtain ⟨cs, rfl⟩ := hv
 obtain ⟨fuel, hf⟩ := h
 obtain ⟨p, h1, h2⟩ := sv hf
 have h3 : cs.toList = encP p := h1
 have h4 : cs = #[sV p.label, iV p.frm, iV p.dst, iV p.cls, iV p.acc] := by rw [<- Array.toArray_toList (xs := cs), h3]; rfl
 exact ⟨p, by rw [h4], h2⟩
theorem tN {base : Nat} {v : Value} {d : DataW H} {ps : List MemPlace} (hval : Value.okWide Tryz.prog W .any base 33 v) (h : DataW.Trod enc Tryz.prog W 0 (fun _ => true) true 33 v d ps) :
  ∃ fr till A c nx D dl dc, v = dI fr till A (List.length nx) c D dl dc /\ Tab W A nx /\ nx.length <= maxLen /\ I64 fr /\ I64 till := by
 have hv : ∃ cs, v = .agg cs := by
  unfold Value.okWide at hval
  rw [Tryz.underlying33] at hval
  obtain ⟨cs, hcs, _⟩ := hval
  exact ⟨cs, hcs⟩
 obtain ⟨cs, rfl⟩ := hv
 obtain ⟨fuel, h⟩ := h
 obtain ⟨xs, m, _, _, hlen, hxl, hf⟩ := DataW.trod_struct Tryz.underlying33 h
 rw [uC] at hlen
 have hxl' : xs.length = 4 := hxl
 obtain ⟨y0, h0⟩ := fld (o := 0) bJ (by rw [hxl']; decide) (hf 0 _ rfl)
 obtain ⟨x0, e0, f0⟩ := cJ h0
 obtain ⟨y1, h1⟩ := fld (o := 1) bJ (by rw [hxl']; decide) (hf 1 _ rfl)
 obtain ⟨x1, e1, f1⟩ := cJ h1
 obtain ⟨y2, h2⟩ := fld (o := 2) wS (by rw [hxl']; decide) (hf 2 _ rfl)
 obtain ⟨A2, c2, x2, e2, f2, g2⟩ := tab_of h2
 obtain ⟨y3, h3⟩ := fld (o := 3) uF (by rw [hxl']; decide) (hf 3 _ rfl)
 obtain ⟨A3, n3, c3, e3⟩ := dtab_of h3
 have hcs : cs.toList = [iV x0, iV x1, .slice A2 x2.length c2, .slice A3 n3 c3] := by
  have hlen' : cs.toList.length = 4 := hlen
  have e0' : (cs.toList.drop 0).take 1 = [iV x0] := e0
  have e1' : (cs.toList.drop 1).take 1 = [iV x1] := e1
  have e2' : (cs.toList.drop 2).take 1 = [.slice A2 x2.length c2] := e2
  have e3' : (cs.toList.drop 3).take 1 = [.slice A3 n3 c3] := e3
  have hend : cs.toList.drop 4 = [] := List.drop_eq_nil_of_le (by omega)
  have h00 : cs.toList = cs.toList.drop 0 := rfl
  rw [h00, cut cs.toList 0 1, e0', show 0 + 1 = 1 from rfl, cut cs.toList 1 1, e1', show 1 + 1 = 2 from rfl, cut cs.toList 2 1, e2', show 2 + 1 = 3 from rfl, cut cs.toList 3 1, e3', show 3 + 1 = 4 from rfl, hend]
  rfl
 have h4 : cs = #[iV x0, iV x1, .slice A2 x2.length c2, .slice A3 n3 c3] := by rw [<- Array.toArray_toList (xs := cs), hcs]
 exact ⟨x0, x1, A2, c2, x2, A3, n3, c3, by rw [h4], f2, g2, f0, f1⟩
end
end
structure xb (w : World) (n : Net) (nx : List NsC) (nxA DA : Option Addr) (DC : Nat) (ds : List Ded) : Prop where
 nin : bj w n
 tab : Tab w nxA nx
 len : nx.length <= maxLen
 rd : Rd w DA (ds.flatMap eW)
 cap : ds.length <= DC
 din : ∀ d ∈ ds, sP d
 kw : KW w
 pw : PW w
structure LwW (w : World) (n : Net) (fr till : Int) (nx : List NsC) (nxA : Option Addr) (nxC : Nat) (D : Option Addr) (dl dc : Nat) (DA : Option Addr) (ds : List Ded) (N P : Nat) (V : World) : Prop where
 bel : Below w.heap.size w V
 net : V.heap[N]? = some (ae n)
 pl : V.heap[P]? = some (gS fr till nxA nx.length nxC D dl dc)
 nin : bj V n
 tab : Tab V nxA nx
 rd : Rd V DA (ds.flatMap eW)
 kw : KW V
 pw : PW V
structure TsOf (h : Hst) (ts : List Trk) : Prop where
 len : ts.length = h.items.length
 at_ : ∀ (i : Nat) (t : Trk), ts[i]? = some t -> ∃ it a, h.items[i]? = some it /\ t = az it a
theorem TsOf.get {h : Hst} {ts : List Trk} (H : TsOf h ts) {i : Nat} (hi : i < ts.length) : ∃ it a, ts[i]? = some (az it a) /\ h.items[i]? = some it := by
 obtain ⟨it, a, h1, h2⟩ := H.at_ i ts[i] (aD hi)
 exact ⟨it, a, by rw [aD hi, h2], h1⟩
def RunL (V : World) (n : Net) (nx : List NsC) (ds : List Ded) (e : Ending) (V' : World) : Prop :=
 Below V.heap.size V V' /\ ((cX n nx ds = none /\ e = .returned (.tuple #[.slice none 0 0, iV 2])) ∨
 ∃ h ts A c, cX n nx ds = some h /\ TsOf h ts /\ e = .returned (.tuple #[.slice A ts.length c, iV 0]) /\ dw V' A ts)
section
variable {w : World} {n : Net} {fr till : Int} {nx : List NsC} {nxA : Option Addr} {nxC : Nat} {D : Option Addr} {dl dc : Nat} {DA : Option Addr} {DC : Nat} {ds : List Ded} {N P : Nat} {V V' : World}
theorem LwW.below (h : LwW w n fr till nx nxA nxC D dl dc DA ds N P V) (hb : Below V.heap.size V V') : LwW w n fr till nx nxA nxC D dl dc DA ds N P V' :=
 ⟨h.bel.trans (hb.mono h.bel.size), (hb.block _ (aa h.net)).trans h.net, (hb.block _ (aa h.pl)).trans h.pl, h.nin.below hb, h.tab.below hb, h.rd.below hb, h.kw.below hb, h.pw.below hb⟩
theorem LwW.start (h : xb w n nx nxA DA DC ds) : LwW w n fr till nx nxA nxC D dl dc DA ds w.heap.size (w.heap.size + 1) (au w (dV n fr till nxA nx.length nxC D dl dc)) := by
 have hb := bv (dV n fr till nxA nx.length nxC D dl dc) w
 have hg := bN (dV n fr till nxA nx.length nxC D dl dc) w
 exact ⟨hb, hg 0 _ rfl, hg 1 _ rfl, h.nin.below hb, h.tab.below hb, h.rd.below hb, h.kw.below hb, h.pw.below hb⟩
theorem LwW.cells (h : LwW w n fr till nx nxA nxC D dl dc DA ds N P V) : (V.cell? (aV N 0) = some (.slice n.calA n.cals.length n.calC) /\ V.cell? (aV N 1) = some (.slice n.namA n.names.length n.namC) /\ V.cell? (aV N 2) = some (.slice n.opA n.ops.length n.opC) /\ V.cell? (aV N 3) = some (.slice n.offA n.offs.length n.offC) /\ V.cell? (aV N 4) = some (.slice n.linA n.lins.length n.linC) /\ V.cell? (aV N 5) = some (.slice n.clsA n.clss.length n.clsC)) /\
  V.cell? (aV P 0) = some (iV fr) /\ V.cell? (aV P 1) = some (iV till) /\ V.cell? (aV P 2) = some (.slice nxA nx.length nxC) /\ V.cell? (aV P 3) = some (.slice D dl dc) :=
 ⟨fj h.net, aA 0 h.pl, aA 1 h.pl, aA 2 h.pl, aA 3 h.pl⟩
theorem kK.len (F : kK n nx ds) : nx.length <= 1000000 := by
 have h1 := F.form.1
 have h2 := F.six
 omega
theorem LwW.run (H : LwW w n fr till nx nxA nxC D dl dc DA ds N P V) (hS : bM n) (hF : bi n nx) (h6 : n.offs.length <= 6) {ds' : List Ded} {m : Nat} (hm : ds'.length = m) (hd : bK n [] 0 ds') (hl : ds'.length <= 50) (A' : Option Addr) (C' : Nat) (h : Rd V A' (ds'.flatMap eW)) :
  Calls Tryz.prog 13 #[bB n, dI fr till nxA nx.length nxC D dl dc, .slice A' m C'] V (RunL V n nx ds') := by
 subst hm
 refine (oC n fr till nx nxA nxC D dl dc A' C' ds' V H.nin H.tab H.kw H.pw hS hF (by have h1 := hF.1; omega) h hd hl).mono ?_
 rintro e V' ⟨hb, ⟨h1, rfl⟩ | ⟨g, As, A, c, h1, h2, rfl, h3, h4⟩⟩
 ·exact ⟨hb, .inl ⟨h1, rfl⟩⟩
 ·refine ⟨hb, .inr ⟨g, List.zipWith az g.items As, A, c, h1, ⟨ox h2, fun i t ht => ?_⟩, by rw [ox h2], h3, h4⟩⟩
  obtain ⟨it, a, k1, -, k3⟩ := sc ht
  exact ⟨it, a, k1, k3⟩
theorem LwW.clean (H : LwW w n fr till nx nxA nxC D dl dc DA ds N P V) (F : kK n nx ds) (lab : List UInt8) (C' : Nat) :
  Calls Tryz.prog 24 #[bB n, dI fr till nxA nx.length nxC D dl dc, .slice DA ds.length C', sV lab] V fun e w' => e = .returned (.bool (cG n nx ds lab)) /\ Below V.heap.size V w' :=
 nU n fr till nx nxA nxC D dl dc DA C' ds lab V H.nin H.tab H.kw H.pw F.sound F.form F.len H.rd F.ok (by have := F.deds; omega)
theorem LwW.fine (H : LwW w n fr till nx nxA nxC D dl dc DA ds N P V) (hI : xb w n nx nxA DA DC ds) :
  Calls Tryz.prog 12 #[bB n, dI fr till nxA nx.length nxC D dl dc, .slice DA ds.length DC] V fun e w' => ij (fun b => b = true -> kK n nx ds) e /\ Below V.heap.size V w' :=
 wB n fr till nx nxA nxC D dl dc DA DC ds V H.nin H.tab hI.len H.rd hI.cap (fun d hd => (hI.din d hd).post.1)
structure ItL (n : Net) (nx : List NsC) (ds : List Ded) (h : Hst) (it : Itm) (a : ItA) : Prop where
 mem : it ∈ h.items
 ok : fL n it
 pst : qI n it.post
 short : (az it a).Short
 ints : o9 (az it a)
theorem kK.item (F : kK n nx ds) {h : Hst} (hr : cX n nx ds = some h) {it : Itm} (hi : it ∈ h.items) (a : ItA) : ItL n nx ds h it a := by
 obtain ⟨H, -⟩ := gG F.sound.1.good F.form hr F.ok
 obtain ⟨h1, h2, -⟩ := qV F.sound.1.good F.form hr F.ok (by have := F.deds; omega) hi a
 exact ⟨hi, H.item it hi, H.pst it hi, h1, h2⟩
theorem kK.few16 (F : kK n nx ds) {h : Hst} (hr : cX n nx ds = some h) : h.items.length <= 16 := by
 have h1 := (gG F.sound.1.good F.form hr F.ok).1.few
 have := F.deds
 omega
end
theorem mod_nat {a m : Nat} (hm : 0 < m) : ∃ k : Nat, (a : Int) % (m : Int) = (k : Int) /\ k < m := ⟨a % m, by rw [<- Int.natCast_emod], Nat.mod_lt _ hm⟩
abbrev u8V (x : Int) : Value := .int .u8 x
abbrev u16V (x : Int) : Value := .int .u16 x
theorem dw.at_ {V : World} {A : Option Addr} {ts : List Trk} (h : dw V A ts) {k : Nat} {t : Trk} (ht : ts[k]? = some t) : ∃ b o, A = some (aV b o) /\ ∀ V', Below V.heap.size V V' ->
  (V'.cell? (aV b (o + k * 10)) = some (sV t.post.label) /\ V'.cell? (aV b (o + k * 10 + 1)) = some (iV t.post.frm) /\ V'.cell? (aV b (o + k * 10 + 2)) = some (iV t.post.dst) /\ V'.cell? (aV b (o + k * 10 + 3)) = some (iV t.post.cls) /\ V'.cell? (aV b (o + k * 10 + 4)) = some (iV t.post.acc)) /\ V'.cell? (aV b (o + k * 10 + 5)) = some (.slice t.sA t.stops.length t.sC) /\ V'.cell? (aV b (o + k * 10 + 6)) = some (.bool t.lost) /\ V'.cell? (aV b (o + k * 10 + 7)) = some (.slice t.nA t.since.length t.nC) /\ V'.cell? (aV b (o + k * 10 + 8)) = some (.slice t.lA t.labs.length t.lC) /\ V'.cell? (aV b (o + k * 10 + 9)) = some (.slice t.eA t.seals.length t.eC) := by
 obtain ⟨-, b, o, hA, -, y0, yj⟩ := ay eF h.rd ht (by omega)
 exact ⟨b, o, hA, fun V' hb => ⟨⟨ag hb (y0 _ rfl), ag hb (yj 1 _ rfl), ag hb (yj 2 _ rfl), ag hb (yj 3 _ rfl), ag hb (yj 4 _ rfl)⟩, ag hb (yj 5 _ rfl), ag hb (yj 6 _ rfl), ag hb (yj 7 _ rfl), ag hb (yj 8 _ rfl), ag hb (yj 9 _ rfl)⟩⟩
theorem trk_box {V : World} {X : Nat} {t : Trk} (h : V.heap[X]? = some (gE t)) :
  (V.cell? (aV X 0) = some (sV t.post.label) /\ V.cell? (aV X 1) = some (iV t.post.frm) /\ V.cell? (aV X 2) = some (iV t.post.dst) /\ V.cell? (aV X 3) = some (iV t.post.cls) /\ V.cell? (aV X 4) = some (iV t.post.acc)) /\ V.cell? (aV X 5) = some (.slice t.sA t.stops.length t.sC) /\ V.cell? (aV X 6) = some (.bool t.lost) /\ V.cell? (aV X 7) = some (.slice t.nA t.since.length t.nC) /\ V.cell? (aV X 8) = some (.slice t.lA t.labs.length t.lC) /\ V.cell? (aV X 9) = some (.slice t.eA t.seals.length t.eC) :=
 ⟨⟨aA 0 h, aA 1 h, aA 2 h, aA 3 h, aA 4 h⟩, aA 5 h, aA 6 h, aA 7 h, aA 8 h, aA 9 h⟩
theorem dw.atI {V : World} {A : Option Addr} {ts : List Trk} (h : dw V A ts) {k : Nat} {it : Itm} {a : ItA} (ht : ts[k]? = some (az it a)) : ∃ b o, A = some (aV b o) /\ ∀ V', Below V.heap.size V V' ->
  (V'.cell? (aV b (o + k * 10)) = some (sV it.post.label) /\ V'.cell? (aV b (o + k * 10 + 1)) = some (iV it.post.frm) /\ V'.cell? (aV b (o + k * 10 + 2)) = some (iV it.post.dst) /\ V'.cell? (aV b (o + k * 10 + 3)) = some (iV it.post.cls) /\ V'.cell? (aV b (o + k * 10 + 4)) = some (iV it.post.acc)) /\ V'.cell? (aV b (o + k * 10 + 5)) = some (.slice (some (aV a.sB 0)) it.stops.length a.sC) /\ V'.cell? (aV b (o + k * 10 + 6)) = some (.bool it.lost) /\ V'.cell? (aV b (o + k * 10 + 7)) = some (.slice (some (aV a.nB 0)) it.since.length a.nC) /\ V'.cell? (aV b (o + k * 10 + 8)) = some (.slice (some (aV a.lB 0)) it.labs.length a.lC) /\ V'.cell? (aV b (o + k * 10 + 9)) = some (.slice a.eA it.seals.length a.eC) := h.at_ ht
theorem px {V : World} {X : Nat} {it : Itm} {a : ItA} (h : V.heap[X]? = some (gE (az it a))) :
  (V.cell? (aV X 0) = some (sV it.post.label) /\ V.cell? (aV X 1) = some (iV it.post.frm) /\ V.cell? (aV X 2) = some (iV it.post.dst) /\ V.cell? (aV X 3) = some (iV it.post.cls) /\ V.cell? (aV X 4) = some (iV it.post.acc)) /\ V.cell? (aV X 5) = some (.slice (some (aV a.sB 0)) it.stops.length a.sC) /\ V.cell? (aV X 6) = some (.bool it.lost) /\ V.cell? (aV X 7) = some (.slice (some (aV a.nB 0)) it.since.length a.nC) /\ V.cell? (aV X 8) = some (.slice (some (aV a.lB 0)) it.labs.length a.lC) /\ V.cell? (aV X 9) = some (.slice a.eA it.seals.length a.eC) := trk_box h
section
open Go.ChangeShapes Go.WideShapes Go.ChangeAt Go.RowKit Go.WideMaps Go.WideElems
open Go.ChangeMaps (open_string shut_string)
theorem gKey : Tryz.prog.globalNamed "postilion/survey.keyWords" = some 0 := by kernel_rfl
theorem ww : (Tryz.prog.globals[0]?).map (·.type) = some 212 := by kernel_rfl
theorem wP : Tryz.prog.cellsOf 212 = 17 := by kernel_rfl
theorem na {H : Type} {enc : TypeId × Value -> H} {P : Program} {w : World} {base : Nat} {sp : Nat -> Bool} {held : Bool} {fuel : Nat} {t e : TypeId} {n : Nat} {cs : List Value} {zs : List (List UInt8)} {p : List MemPlace}
  (ht : P.underlying t = some (.array n e)) (he : P.underlying e = some .string) (hce : P.cellsOf e = 1) (hct : P.cellsOf t = n)
  (h : DataW.trod enc P w base sp held fuel t cs = some (.agg (zs.map fun z => .lit (.string z)), p)) : cs = zs.map fun z => Value.string ⟨z.toArray⟩ := by
 cases fuel with
 | zero => simp [DataW.trod] at h
 | succ fuel =>
  simp only [DataW.trod, ht, hce, hct, Nat.mul_one] at h
  split at h
  ·rename_i hl
   obtain ⟨xs, hm, hx⟩ := Option.map_eq_some_iff.1 h
   have hxs : xs.map (·.1) = zs.map fun z => (DataW.lit (.string z) : DataW H) := by
    have := congrArg Prod.fst hx
    simpa using this
   have hxl : xs.length = n := by simpa using Lib.mapM_length hm
   have hzl : zs.length = n := by
    have := congrArg List.length hxs
    simp at this
    omega
   apply List.ext_getElem?
   intro i
   by_cases hi : i < n
   ·obtain ⟨b, hb, hf⟩ := Lib.mapM_at hm i i (by simp [hi])
    obtain ⟨z, hc, rfl, _⟩ := DataW.trod_string he hf
    have h1 : cs[i]? = some (.string z) := by
     have := congrArg (·[0]?) hc
     simpa [List.getElem?_take, List.getElem?_drop] using this
    have h2 : (xs.map (·.1))[i]? = some (DataW.lit (.string z.data.toList) : DataW H) := by simp [hb]
    rw [hxs] at h2
    simp only [aS, Option.map_eq_some_iff, DataW.lit.injEq, Lit.string.injEq] at h2
    obtain ⟨z', hz', hzz⟩ := h2
    rw [h1, aS, hz', rT hzz.symm]
    rfl
   ·rw [List.getElem?_eq_none (by omega), List.getElem?_eq_none (by simp; omega)]
  ·cases h
theorem gPow : Tryz.prog.globalNamed "internal/strconv.uint64pow10" = some 1 := by kernel_rfl
theorem wv : (Tryz.prog.globals[1]?).map (·.type) = some 226 := by kernel_rfl
theorem wO : Tryz.prog.cellsOf 226 = 20 := by kernel_rfl
theorem wR : Tryz.prog.cellsOf 214 = 1 := by kernel_rfl
abbrev vT : List (String × DataW Unit) := [("math/bits.deBruijn32tab", Rows.laid_math_bits_deBruijn32tab), ("math/bits.deBruijn64tab", Rows.laid_math_bits_deBruijn64tab), ("internal/strconv.uint64pow10", Rows.laid_internal_strconv_uint64pow10), ("postilion/survey.keyWords", Rows.laid_postilion_survey_keyWords)]
theorem tX : vT.filter (fun x => x.2.handleName?.isSome) = [] := by kernel_rfl
theorem powData : (Rows.laid_internal_strconv_uint64pow10 : DataW Unit) = Lib.tabData .u64 Lib.pow10Tab := by kernel_rfl
theorem rD {W : World} (h : laidMetH Tryz.prog vT W) : KW W /\ PW W := by
 have h' : laidMet Tryz.prog vT W := by
  unfold laidMetH at h
  rw [tX] at h
  exact h
 obtain ⟨ps, ⟨_, _, _, _, _, q1, _, _, _, _, h1, _⟩, _⟩ := h'
 obtain ⟨_, _, _, _, _, q2, _, _, _, _, h2, _⟩ := h1
 obtain ⟨g3, t3, cs3, fuel3, _, q3, hg3, ht3, hvar3, hd3, h3, _⟩ := h2
 obtain ⟨g', t', cs, fuel, p, q, hg', ht', hvar, hd, _, _⟩ := h3
 refine ⟨?_, ?_⟩
 ·obtain rfl := Option.some.inj (gKey.symm.trans hg')
  obtain rfl := Option.some.inj (ww.symm.trans ht')
  have hcs := na (zs := kwL) Tryz.underlying212 Tryz.underlying9 eS wP hd
  unfold World.var? at hvar
  rw [gKey] at hvar
  simp only [Option.bind_some] at hvar
  split at hvar
  ·rename_i cs' t fr hh
   have : cs' = kwA := by
    have := Option.some.inj hvar
    rw [this]
    cases cs
    simp at hcs
    rw [hcs]
    rfl
   rw [this] at hh
   exact ⟨t, fr, hh⟩
  ·cases hvar
 ·obtain rfl := Option.some.inj (gPow.symm.trans hg3)
  obtain rfl := Option.some.inj (wv.symm.trans ht3)
  rw [powData] at hd3
  have hcs := Lib.cells_of_tab Tryz.underlying226 Tryz.underlying214 wR wO hd3
  unfold World.var? at hvar3
  rw [gPow] at hvar3
  simp only [Option.bind_some] at hvar3
  split at hvar3
  ·rename_i cs' t fr hh
   have : cs' = (Lib.pow10Tab.map fun z => Value.int .u64 z).toArray := by
    have := Option.some.inj hvar3
    rw [this]
    cases cs3
    simp at hcs
    rw [hcs]
   rw [this] at hh
   exact ⟨t, fr, hh⟩
  ·cases hvar3
def wQ : Nat -> DataW Unit -> List Value
 | _ + 1, .lit (.int k x) => [.int k x]
 | _ + 1, .lit (.string bs) => [.string ⟨bs.toArray⟩]
 | n + 1, .agg l => l.flatMap (wQ n)
 | _, _ => []
def sG (h : Array Obj) (g : Nat) (d : DataW Unit) : Array Obj := h.modify g fun
 | .cells _ t frozen => .cells (wQ 4 d).toArray t frozen
 | o => o
def lay1 (h : Array Obj) : Array Obj := sG h 3 Rows.laid_math_bits_deBruijn32tab
def lay2 (h : Array Obj) : Array Obj := sG h 4 Rows.laid_math_bits_deBruijn64tab
def lay3 (h : Array Obj) : Array Obj := sG h 1 Rows.laid_internal_strconv_uint64pow10
def lay4 (h : Array Obj) : Array Obj := sG h 0 Rows.laid_postilion_survey_keyWords
noncomputable def laidWorld (os : Os) : World :=
 { World.holding Tryz.prog os ⟨#[], #[], []⟩ with heap := lay4 (lay3 (lay2 (lay1 (World.holding Tryz.prog os ⟨#[], #[], []⟩).heap))) }
end
end Go.Proofs.YtpeaiphdkgifaaaGreatDoor
