/- What the law's head knows of its example, and what it has in hand. -/
import Derived.Test.YtpeaiphdkgifaaaGreatDoorVbi
import Derived.Test.YtpeaiphdkgifaaaGreatDoorVbj
import Derived.Test.YtpeaiphdkgifaaaGreatDoorVbe
import Derived.Test.YtpeaiphdkgifaaaGreatDoorVbf
import Derived.OrdersHeld
namespace Go.Proofs.YtpeaiphdkgifaaaGreatDoor
open Go.RowKit
set_option maxHeartbeats 20000000
set_option maxRecDepth 100000
abbrev iw1 : Itm := ⟨a7.post, [⟨0, 100, 480, 0⟩, ⟨1, 600, -1, -1⟩], false, [100], [[65]], [cZ 0 480], 0, -1, 0⟩
abbrev iw2 : Itm := ⟨a7.post, [⟨0, 100, 1920, 0⟩, ⟨1, 2040, -1, -1⟩], false, [100], [[65]], [cZ 0 1920], 0, -1, 0⟩
abbrev iw3 : Itm := ⟨a7.post, [⟨0, 100, -1, -1⟩], true, [100], [[65]], [], 0, -1, 0⟩
abbrev iw4 : Itm := ⟨a7.post, [⟨0, 100, 480, 0⟩, ⟨1, 600, -1, -1⟩], true, [100], [[65]], [cZ 0 480], 0, -1, 0⟩
abbrev iw5 : Itm := ⟨a7.post, [⟨0, 100, -1, -1⟩], false, [100, 200], [[65], [66]], [], 0, -1, 0⟩
abbrev iw6 : Itm := ⟨ez.post, [⟨0, 100, 480, 0⟩, ⟨1, 600, -1, -1⟩], false, [100, 200], [[66], [65]], [cZ 0 480], 0, -1, 0⟩
structure ExP (n : Net) (nx : List NsC) : Prop where
 sound : bM n
 form : bi n nx
 len : nx.length = 2
 r1 : cX n nx [a7] = some ⟨[iw1], []⟩
 r2 : cX n nx [a7, kz] = some ⟨[iw2], []⟩
 r3 : cX n nx [a7, fD 480] = some ⟨[iw3], []⟩
 r4 : cX n nx [a7, fD 481] = some ⟨[iw4], []⟩
 r5 : cX n nx [a7, ez, eK] = some ⟨[iw5, iw6], []⟩
 d1 : bK n [] 0 [a7]
 d2 : bK n [] 0 [a7, kz]
 d3 : bK n [] 0 [a7, fD 480]
 d4 : bK n [] 0 [a7, fD 481]
 d5 : bK n [] 0 [a7, ez, eK]
 del : delR n a7.post iw1.stops false [[65]] = some 720
 cl1 : cG n nx [a7] [65] = true
 cl5 : cG n nx [a7, ez, eK] [65] = false
theorem clean_1 {n : Net} {nx : List NsC} (h : cX n nx [a7] = some ⟨[iw1], []⟩) : cG n nx [a7] [65] = true := by
 unfold cG
 rw [h]
 show (match cX n nx [a7] with | none => false | some g => cr (bP iw1) == cr (bP (g.items.headD iw1))) = true
 rw [h]
 show (cr (bP iw1) == cr (bP iw1)) = true
 simp
theorem clean_5 {n : Net} {nx : List NsC} (hG : cY n) (hF : bi n nx) (h1 : cX n nx [a7] = some ⟨[iw1], []⟩) (h5 : cX n nx [a7, ez, eK] = some ⟨[iw5, iw6], []⟩) (d1 : bK n [] 0 [a7]) (d5 : bK n [] 0 [a7, ez, eK]) : cG n nx [a7, ez, eK] [65] = false := by
 unfold cG
 rw [h5]
 show (match cX n nx [a7] with | none => false | some g => cr (bP iw5) == cr (bP (g.items.headD iw5))) = false
 rw [h1]
 show (cr (bP iw5) == cr (bP iw1)) = false
 rw [aU]
 intro e
 have H1 := (gG hG hF h1 d1).1
 have H5 := (gG hG hF h5 d5).1
 have := (pz (H5.item iw5 (by simp)) (H1.item iw1 (by simp)) (fE H5 (it := iw5) (by simp)) (fE H1 (it := iw1) (by simp)) e).2.1
 have h9 := congrArg List.length this
 simp at h9
theorem exW_P (wA a1 a2 a3 a4 a5 a6 A B : Option Addr) : ExP (exW wA a1 a2 a3 a4 a5 a6) (jI A B) := by
 have hS := uu wA a1 a2 a3 a4 a5 a6
 have hF := rJ wA a1 a2 a3 a4 a5 a6 A B
 have r1 := exw_1 wA a1 a2 a3 a4 a5 a6 A B
 have r5 := exw_5 wA a1 a2 a3 a4 a5 a6 A B
 have d1 := exw_d1 wA a1 a2 a3 a4 a5 a6
 have d5 := exw_d5 wA a1 a2 a3 a4 a5 a6
 refine ⟨hS, hF, rfl, r1, exw_2 .., exw_3 .., exw_4 .., r5, d1, exw_d2 .., wC wA a1 a2 a3 a4 a5 a6 (by decide) (by decide), wC wA a1 a2 a3 a4 a5 a6 (by decide) (by decide), d5, ?_, clean_1 r1, clean_5 hS.1.good hF r1 r5 d1 d5⟩
 have hdt : deliveryTop (exW wA a1 a2 a3 a4 a5 a6) 0 1 600 = (720, 0) := by
  unfold deliveryTop
  rw [if_pos ⟨by kernel_rfl, by kernel_rfl, by kernel_rfl, hS⟩]
  kernel_rfl
 unfold delR
 show (if false = true ∨ (1 : Int) ≠ 1 ∨ (-1 : Int) ≠ -1 ∨ ([65] : List UInt8) ≠ [65] then none else if (deliveryTop (exW wA a1 a2 a3 a4 a5 a6) 0 1 600).2 = 0 then some (deliveryTop (exW wA a1 a2 a3 a4 a5 a6) 0 1 600).1 else none) = some 720
 rw [if_neg (by simp), hdt]
 rfl
structure dw (V : World) (A : Option Addr) (ts : List Trk) : Prop where
 rd : Rd V A (ts.flatMap jJ)
 tr : ∀ t ∈ ts, lK V t
theorem dw.below {V V' : World} {A : Option Addr} {ts : List Trk} (h : dw V A ts) (hb : Below V.heap.size V V') : dw V' A ts := ⟨h.rd.below hb, fun t ht => (h.tr t ht).below hb⟩
theorem dw.cells0 {V : World} {A : Option Addr} {t : Trk} {ts : List Trk} (h : dw V A (t :: ts)) : ∃ b o, A = some (aV b o) := by
 rcases h.rd with h | ⟨b, o, h, -⟩
 ·simp [jJ] at h
 ·exact ⟨b, o, h⟩
theorem dw.at0 {V : World} {b o : Nat} {t : Trk} {ts : List Trk} (h : dw V (some (aV b o)) (t :: ts)) {j : Nat} {u : Value} (hj : (jJ t)[j]? = some u) : V.cell? (aV b (o + j)) = some u := by
 rcases h.rd with h | ⟨b', o', hA, -, hc⟩
 ·simp [jJ] at h
 ·cases hA
  refine hc j u ?_
  rw [List.flatMap_cons, List.getElem?_append_left (by rw [eF]; have := (aE.1 hj).1; rwa [eF] at this)]
  exact hj
theorem dw.at1 {V : World} {b o : Nat} {s t : Trk} {ts : List Trk} (h : dw V (some (aV b o)) (s :: t :: ts)) {j : Nat} {u : Value} (hj : (jJ t)[j]? = some u) : V.cell? (aV b (o + 10 + j)) = some u := by
 rcases h.rd with h | ⟨b', o', hA, -, hc⟩
 ·simp [jJ] at h
 ·cases hA
  rw [Nat.add_assoc]
  refine hc (10 + j) u ?_
  rw [List.flatMap_cons, List.getElem?_append_right (by rw [eF]; omega), eF, show 10 + j - 10 = j by omega, List.flatMap_cons, List.getElem?_append_left (by have := (aE.1 hj).1; exact this)]
  exact hj
structure HdS (w : World) (n : Net) (nx : List NsC) (C : Option Addr) (N P D : Nat) (V : World) : Prop where
 bel : Below w.heap.size w V
 net : V.heap[N]? = some (ae n)
 pl : V.heap[P]? = some (gS 0 0 C 2 2 none 0 0)
 ded : V.heap[D]? = some (an a7)
 nin : bj V n
 tab : Tab V C nx
 kw : KW V
 pw : PW V
section
variable {w : World} {n : Net} {nx : List NsC} {C : Option Addr} {N P D : Nat} {V V' : World}
theorem HdS.below (h : HdS w n nx C N P D V) (hb : Below V.heap.size V V') : HdS w n nx C N P D V' :=
 ⟨h.bel.trans (hb.mono h.bel.size), (hb.block _ (aa h.net)).trans h.net, (hb.block _ (aa h.pl)).trans h.pl, (hb.block _ (aa h.ded)).trans h.ded, h.nin.below hb, h.tab.below hb, h.kw.below hb, h.pw.below hb⟩
theorem HdS.cells (h : HdS w n nx C N P D V) : (V.cell? (aV N 0) = some (.slice n.calA n.cals.length n.calC) /\ V.cell? (aV N 1) = some (.slice n.namA n.names.length n.namC) /\ V.cell? (aV N 2) = some (.slice n.opA n.ops.length n.opC) /\ V.cell? (aV N 3) = some (.slice n.offA n.offs.length n.offC) /\ V.cell? (aV N 4) = some (.slice n.linA n.lins.length n.linC) /\ V.cell? (aV N 5) = some (.slice n.clsA n.clss.length n.clsC)) /\
  (V.cell? (aV P 0) = some (iV 0) /\ V.cell? (aV P 1) = some (iV 0) /\ V.cell? (aV P 2) = some (.slice C 2 2) /\ V.cell? (aV P 3) = some (.slice none 0 0)) /\
  V.cell? (aV D 0) = some (iV 1) /\ V.cell? (aV D 1) = some (iV 100) /\ V.cell? (aV D 2) = some (sV [65]) /\ V.cell? (aV D 3) = some (iV 0) /\ V.cell? (aV D 4) = some (iV 1) /\ V.cell? (aV D 5) = some (iV 0) /\ V.cell? (aV D 6) = some (iV 100) /\ V.cell? (aV D 7) = some (sV []) /\ V.cell? (aV D 8) = some (sV []) /\ V.cell? (aV D 9) = some (iV 0) :=
 ⟨fj h.net, ⟨aA 0 h.pl, aA 1 h.pl, aA 2 h.pl, aA 3 h.pl⟩, aA 0 h.ded, aA 1 h.ded, aA 2 h.ded, aA 3 h.ded, aA 4 h.ded, aA 5 h.ded, aA 6 h.ded, aA 7 h.ded, aA 8 h.ded, aA 9 h.ded⟩
def RunT1 (V : World) (it : Itm) (e : Ending) (V' : World) : Prop := ∃ a b o c, e = .returned (.tuple #[.slice (some (aV b o)) 1 c, iV 0]) /\ dw V' (some (aV b o)) [az it a] /\ Below V.heap.size V V'
def RunT2 (V : World) (i j : Itm) (e : Ending) (V' : World) : Prop := ∃ a a' b o c, e = .returned (.tuple #[.slice (some (aV b o)) 2 c, iV 0]) /\ dw V' (some (aV b o)) [az i a, az j a'] /\ Below V.heap.size V V'
theorem HdS.run (H : HdS w n nx C N P D V) (E : ExP n nx) {ds : List Ded} (hd : bK n [] 0 ds) (hl : ds.length <= 50) (A' : Option Addr) (C' : Nat) (h : Rd V A' (ds.flatMap eW)) :
  Calls Tryz.prog 13 #[bB n, dI 0 0 C 2 2 none 0 0, .slice A' ds.length C'] V (RunR V n nx ds) := by
 have h1 := oC n 0 0 nx C 2 none 0 0 A' C' ds V H.nin H.tab H.kw H.pw E.sound E.form (by rw [E.len]; decide) h hd hl
 rwa [E.len] at h1
theorem HdS.run1 (H : HdS w n nx C N P D V) (E : ExP n nx) {ds : List Ded} {m : Nat} (hm : ds.length = m) (hd : bK n [] 0 ds) (hl : ds.length <= 50) {it : Itm} {cc : List Int} (hr : cX n nx ds = some ⟨[it], cc⟩) (A' : Option Addr) (C' : Nat) (h : Rd V A' (ds.flatMap eW)) :
  Calls Tryz.prog 13 #[bB n, dI 0 0 C 2 2 none 0 0, .slice A' m C'] V (RunT1 V it) := by
 subst hm
 refine (H.run E hd hl A' C' h).mono ?_
 rintro e V' ⟨hb, ⟨h1, -⟩ | ⟨h', As, A, c, h1, h2, rfl, h3, h4⟩⟩
 ·rw [hr] at h1; cases h1
 ·rw [hr] at h1
  cases h1
  obtain ⟨a, rfl⟩ : ∃ a, As = [a] := by
   cases As with
   | nil => simp at h2
   | cons a l =>
    cases l with
    | nil => exact ⟨a, rfl⟩
    | cons _ _ => simp at h2
  have hT : dw V' A [az it a] := ⟨h3, h4⟩
  obtain ⟨b, o, rfl⟩ := hT.cells0
  exact ⟨a, b, o, c, rfl, hT, hb⟩
theorem HdS.run2 (H : HdS w n nx C N P D V) (E : ExP n nx) {ds : List Ded} {m : Nat} (hm : ds.length = m) (hd : bK n [] 0 ds) (hl : ds.length <= 50) {i j : Itm} {cc : List Int} (hr : cX n nx ds = some ⟨[i, j], cc⟩) (A' : Option Addr) (C' : Nat) (h : Rd V A' (ds.flatMap eW)) :
  Calls Tryz.prog 13 #[bB n, dI 0 0 C 2 2 none 0 0, .slice A' m C'] V (RunT2 V i j) := by
 subst hm
 refine (H.run E hd hl A' C' h).mono ?_
 rintro e V' ⟨hb, ⟨h1, -⟩ | ⟨h', As, A, c, h1, h2, rfl, h3, h4⟩⟩
 ·rw [hr] at h1; cases h1
 ·rw [hr] at h1
  cases h1
  obtain ⟨a, a', rfl⟩ : ∃ a a', As = [a, a'] := by
   cases As with
   | nil => simp at h2
   | cons a l =>
    cases l with
    | nil => simp at h2
    | cons a' l =>
     cases l with
     | nil => exact ⟨a, a', rfl⟩
     | cons _ _ => simp at h2
  have hT : dw V' A [az i a, az j a'] := ⟨h3, h4⟩
  obtain ⟨b, o, rfl⟩ := hT.cells0
  exact ⟨a, a', b, o, c, rfl, hT, hb⟩
theorem HdS.clean (H : HdS w n nx C N P D V) (E : ExP n nx) {ds : List Ded} {m : Nat} (hm : ds.length = m) (hd : bK n [] 0 ds) (hl : ds.length <= 50) (lab : List UInt8) (A' : Option Addr) (C' : Nat) (h : Rd V A' (ds.flatMap eW)) :
  Calls Tryz.prog 24 #[bB n, dI 0 0 C 2 2 none 0 0, .slice A' m C', sV lab] V fun e w' => e = .returned (.bool (cG n nx ds lab)) /\ Below V.heap.size V w' := by
 subst hm
 have h1 := nU n 0 0 nx C 2 none 0 0 A' C' ds lab V H.nin H.tab H.kw H.pw E.sound E.form (by rw [E.len]; decide) h hd hl
 rwa [E.len] at h1
end
abbrev dm (ds : List Ded) : Obj := .cells (ds.flatMap eW).toArray 44
theorem jq {V : World} {g : Nat} {ds : List Ded} (h : V.heap[g]? = some (dm ds)) : Rd V (some (aV g 0)) (ds.flatMap eW) := by simpa using cv h
def ExamH (w : World) (e : Ending) (w' : World) : Prop :=
 ∃ n nx C, ExP n nx /\ e = .returned (.tuple #[bB n, dI 0 0 C 2 2 none 0 0]) /\ bj w' n /\ Tab w' C nx /\ Below w.heap.size w w'
theorem oN (w : World) : Calls Tryz.prog 31 #[] w (ExamH w) := by
 refine (oM w).mono ?_
 rintro e w' ⟨wA, a1, a2, a3, a4, a5, a6, A, B, C, rfl, h1, h2, h3⟩
 exact ⟨_, _, C, exW_P wA a1 a2 a3 a4 a5 a6 A B, rfl, h1, h2, h3⟩
section
attribute [local go_sem] Oper.semAt_some
theorem us (w : World) (hk : KW w) (hp : PW w) : Calls Tryz.prog 11 #[] w fun e w' => e = .returned (.bool true) /\ Below w.heap.size w w' := by
 have HK := aB hk
 have HP := aB hp
 clear hk hp
 go_enter Tryz.func11, Tryz.ntmps11
 go_wp2_with fail
 refine (oN w).mono ?_
 rintro e V1 ⟨n, nx, C, hE, rfl, hn1, hT1, hb1⟩
 have E := aB hE
 have HB1 := aB hb1
 have HN1 := aB (And.intro hn1 hT1)
 clear hE hn1 hT1 hb1
 go_upto_region 2 with fail
 have hb2 := bv [ae n, gS 0 0 C 2 2 none 0 0] V1
 have hg2 := bN [ae n, gS 0 0 C 2 2 none 0 0] V1
 have q0 := hg2 0 _ rfl
 have q1 := hg2 1 _ rfl
 change Code.wp _ _ _ _ (au V1 [ae n, gS 0 0 C 2 2 none 0 0])
 generalize au V1 [ae n, gS 0 0 C 2 2 none 0 0] = V2 at *
 have HB2 := aB hb2
 have HQ2 := aB (And.intro q0 q1)
 clear hb2 hg2 q0 q1
 go_wp2_with fail
 refine (pZ [65] 100 V2).mono ?_
 rintro e V3 ⟨rfl, hb3⟩
 have HB3 := aB hb3
 clear hb3
 go_upto_region 3 with fail
 have hb4 := ba V3 (an a7)
 have hg4 := aC V3 (an a7)
 change Code.wp _ _ _ _ (V3.alloc (an a7))
 generalize V3.alloc (an a7) = V4 at *
 have hb24 := bt HB3.out hb4
 have hb14 := bt HB2.out hb24
 have hS : HdS w n nx C V1.heap.size (V1.heap.size + 1) V3.heap.size V4 := ⟨HB1.out.trans (hb14.mono HB1.out.size), (hb24.block _ (aa HQ2.out.1)).trans HQ2.out.1, (hb24.block _ (aa HQ2.out.2)).trans HQ2.out.2, hg4, HN1.out.1.below hb14, HN1.out.2.below hb14, HK.out.below (HB1.out.trans (hb14.mono HB1.out.size)), HP.out.below (HB1.out.trans (hb14.mono HB1.out.size))⟩
 have HS := aB hS
 clear hb4 hg4 hb24 hb14 hS
 generalize V1.heap.size = N at HS ⊢
 generalize V3.heap.size = D at HS ⊢
 generalize hNP : N + 1 = P at HS ⊢
 clear hNP
 obtain ⟨⟨n0, n1, n2, n3, n4, n5⟩, ⟨p0, p1, p2, p3⟩, d0, d1, d2, d3, d4, d5, d6, d7, d8, d9⟩ := HS.out.cells
 go_wp2_with fail
 clear n0 n1 n2 n3 n4 n5 p0 p1 p2 p3 d0 d1 d2 d3 d4 d5 d6 d7 d8 d9
 have hb := ba V4 (dm [a7])
 have hg := aC V4 (dm [a7])
 have hS := HS.out.below hb
 have hcall := hS.run1 E.out (ds := [a7]) (m := 1) rfl E.out.d1 (by simp) E.out.r1 (some (aV V4.heap.size 0)) 1 (jq hg)
 have HCALL := aB hcall
 replace HS := aB (HS.out.below hb)
 clear hb hg hS hcall
 change Calls _ _ #[bB n, dI 0 0 C 2 2 none 0 0, .slice (some (aV V4.heap.size 0)) 1 1] (V4.alloc (dm [a7])) _
 generalize V4.alloc (dm [a7]) = U4 at *
 generalize V4.heap.size = G4 at *
 with_reducible refine HCALL.out.mono ?_
 rintro e V5 ⟨a4, b4, o4, c4, rfl, hT, hb⟩
 clear HCALL
 replace HS := aB (HS.out.below hb)
 have HT4 := aB hT
 clear hT hb
 obtain ⟨⟨n0, n1, n2, n3, n4, n5⟩, ⟨p0, p1, p2, p3⟩, d0, d1, d2, d3, d4, d5, d6, d7, d8, d9⟩ := HS.out.cells
 go_wp2_with fail
 clear n0 n1 n2 n3 n4 n5 p0 p1 p2 p3 d0 d1 d2 d3 d4 d5 d6 d7 d8 d9
 have hb := ba V5 (dm [a7, kz])
 have hg := aC V5 (dm [a7, kz])
 have hS := HS.out.below hb
 have hcall := hS.run1 E.out (ds := [a7, kz]) (m := 2) rfl E.out.d2 (by simp) E.out.r2 (some (aV V5.heap.size 0)) 2 (jq hg)
 have HCALL := aB hcall
 replace HS := aB (HS.out.below hb)
 replace HT4 := aB (HT4.out.below hb)
 clear hb hg hS hcall
 change Calls _ _ #[bB n, dI 0 0 C 2 2 none 0 0, .slice (some (aV V5.heap.size 0)) 2 2] (V5.alloc (dm [a7, kz])) _
 generalize V5.alloc (dm [a7, kz]) = U5 at *
 generalize V5.heap.size = G5 at *
 with_reducible refine HCALL.out.mono ?_
 rintro e V6 ⟨a6, b6, o6, c6, rfl, hT, hb⟩
 clear HCALL
 replace HS := aB (HS.out.below hb)
 replace HT4 := aB (HT4.out.below hb)
 have HT6 := aB hT
 clear hT hb
 obtain ⟨⟨n0, n1, n2, n3, n4, n5⟩, ⟨p0, p1, p2, p3⟩, d0, d1, d2, d3, d4, d5, d6, d7, d8, d9⟩ := HS.out.cells
 go_wp2_with fail
 clear n0 n1 n2 n3 n4 n5 p0 p1 p2 p3 d0 d1 d2 d3 d4 d5 d6 d7 d8 d9
 have hb := ba V6 (dm [a7, fD 480])
 have hg := aC V6 (dm [a7, fD 480])
 have hS := HS.out.below hb
 have hcall := hS.run1 E.out (ds := [a7, fD 480]) (m := 2) rfl E.out.d3 (by simp) E.out.r3 (some (aV V6.heap.size 0)) 2 (jq hg)
 have HCALL := aB hcall
 replace HS := aB (HS.out.below hb)
 replace HT4 := aB (HT4.out.below hb)
 replace HT6 := aB (HT6.out.below hb)
 clear hb hg hS hcall
 change Calls _ _ #[bB n, dI 0 0 C 2 2 none 0 0, .slice (some (aV V6.heap.size 0)) 2 2] (V6.alloc (dm [a7, fD 480])) _
 generalize V6.alloc (dm [a7, fD 480]) = U6 at *
 generalize V6.heap.size = G6 at *
 with_reducible refine HCALL.out.mono ?_
 rintro e V7 ⟨a8, b8, o8, c8, rfl, hT, hb⟩
 clear HCALL
 replace HS := aB (HS.out.below hb)
 replace HT4 := aB (HT4.out.below hb)
 replace HT6 := aB (HT6.out.below hb)
 have HT8 := aB hT
 clear hT hb
 obtain ⟨⟨n0, n1, n2, n3, n4, n5⟩, ⟨p0, p1, p2, p3⟩, d0, d1, d2, d3, d4, d5, d6, d7, d8, d9⟩ := HS.out.cells
 go_wp2_with fail
 clear n0 n1 n2 n3 n4 n5 p0 p1 p2 p3 d0 d1 d2 d3 d4 d5 d6 d7 d8 d9
 have hb := ba V7 (dm [a7, fD 481])
 have hg := aC V7 (dm [a7, fD 481])
 have hS := HS.out.below hb
 have hcall := hS.run1 E.out (ds := [a7, fD 481]) (m := 2) rfl E.out.d4 (by simp) E.out.r4 (some (aV V7.heap.size 0)) 2 (jq hg)
 have HCALL := aB hcall
 replace HS := aB (HS.out.below hb)
 replace HT4 := aB (HT4.out.below hb)
 replace HT6 := aB (HT6.out.below hb)
 replace HT8 := aB (HT8.out.below hb)
 clear hb hg hS hcall
 change Calls _ _ #[bB n, dI 0 0 C 2 2 none 0 0, .slice (some (aV V7.heap.size 0)) 2 2] (V7.alloc (dm [a7, fD 481])) _
 generalize V7.alloc (dm [a7, fD 481]) = U7 at *
 generalize V7.heap.size = G7 at *
 with_reducible refine HCALL.out.mono ?_
 rintro e V8 ⟨a10, b10, o10, c10, rfl, hT, hb⟩
 clear HCALL
 replace HS := aB (HS.out.below hb)
 replace HT4 := aB (HT4.out.below hb)
 replace HT6 := aB (HT6.out.below hb)
 replace HT8 := aB (HT8.out.below hb)
 have HT10 := aB hT
 clear hT hb
 go_upto_region 8 with fail
 have hb := ba V8 (an ez)
 have hg := aC V8 (an ez)
 replace HS := aB (HS.out.below hb)
 replace HT4 := aB (HT4.out.below hb)
 replace HT6 := aB (HT6.out.below hb)
 replace HT8 := aB (HT8.out.below hb)
 replace HT10 := aB (HT10.out.below hb)
 change Code.wp _ _ _ _ (V8.alloc (an ez))
 generalize (V8.alloc (an ez)) = V9 at *
 generalize V8.heap.size = Y at hg ⊢
 have y0 : V9.cell? (aV Y 0) = some (iV 1) := aA 0 hg
 have y1 : V9.cell? (aV Y 1) = some (iV 100) := aA 1 hg
 have y2 : V9.cell? (aV Y 2) = some (sV [66]) := aA 2 hg
 have y3 : V9.cell? (aV Y 3) = some (iV 0) := aA 3 hg
 have y4 : V9.cell? (aV Y 4) = some (iV 0) := aA 4 hg
 have y5 : V9.cell? (aV Y 5) = some (iV 0) := aA 5 hg
 have y6 : V9.cell? (aV Y 6) = some (iV 100) := aA 6 hg
 have y7 : V9.cell? (aV Y 7) = some (sV []) := aA 7 hg
 have y8 : V9.cell? (aV Y 8) = some (sV []) := aA 8 hg
 have y9 : V9.cell? (aV Y 9) = some (iV 0) := aA 9 hg
 clear hb hg
 obtain ⟨⟨n0, n1, n2, n3, n4, n5⟩, ⟨p0, p1, p2, p3⟩, d0, d1, d2, d3, d4, d5, d6, d7, d8, d9⟩ := HS.out.cells
 go_upto_region 9 with fail
 clear n0 n1 n2 n3 n4 n5 p0 p1 p2 p3 d0 d1 d2 d3 d4 d5 d6 d7 d8 d9
 have hb := ba V9 (dm [a7, ez, eK])
 have hg := aC V9 (dm [a7, ez, eK])
 replace HS := aB (HS.out.below hb)
 replace HT4 := aB (HT4.out.below hb)
 replace HT6 := aB (HT6.out.below hb)
 replace HT8 := aB (HT8.out.below hb)
 replace HT10 := aB (HT10.out.below hb)
 have hR := jq hg
 change Code.wp _ _ _ _ (V9.alloc (dm [a7, ez, eK]))
 generalize (V9.alloc (dm [a7, ez, eK])) = V10 at *
 generalize V9.heap.size = G at hR ⊢
 have HR := aB hR
 clear y0 y1 y2 y3 y4 y5 y6 y7 y8 y9 hg hb hR
 obtain ⟨⟨n0, n1, n2, n3, n4, n5⟩, ⟨p0, p1, p2, p3⟩, d0, d1, d2, d3, d4, d5, d6, d7, d8, d9⟩ := HS.out.cells
 go_wp2_with fail
 clear n0 n1 n2 n3 n4 n5 p0 p1 p2 p3 d0 d1 d2 d3 d4 d5 d6 d7 d8 d9
 have hcall := HS.out.run2 E.out (ds := [a7, ez, eK]) (m := 3) rfl E.out.d5 (by simp) E.out.r5 (some (aV G 0)) 3 HR.out
 have HCALL := aB hcall
 clear hcall
 with_reducible refine HCALL.out.mono ?_
 rintro e V11 ⟨a14, a14', b14, o14, c14, rfl, hT, hb⟩
 clear HCALL
 replace HS := aB (HS.out.below hb)
 replace HT4 := aB (HT4.out.below hb)
 replace HT6 := aB (HT6.out.below hb)
 replace HT8 := aB (HT8.out.below hb)
 replace HT10 := aB (HT10.out.below hb)
 have HT14 := aB hT
 have HR := aB (HR.out.below hb)
 clear hT hb
 go_upto_region 13 with fail
 have hb := ba V11 (.cells #[iV 0, iV 100, iV 480, iV 0] 50)
 have hg := aC V11 (.cells #[iV 0, iV 100, iV 480, iV 0] 50)
 replace HS := aB (HS.out.below hb)
 replace HT4 := aB (HT4.out.below hb)
 replace HT6 := aB (HT6.out.below hb)
 replace HT8 := aB (HT8.out.below hb)
 replace HT10 := aB (HT10.out.below hb)
 replace HT14 := aB (HT14.out.below hb)
 replace HR := aB (HR.out.below hb)
 change Code.wp _ _ _ _ (V11.alloc (.cells #[iV 0, iV 100, iV 480, iV 0] 50))
 generalize (V11.alloc (.cells #[iV 0, iV 100, iV 480, iV 0] 50)) = V12 at *
 generalize V11.heap.size = Q at hg ⊢
 have HG := aB hg
 clear hb hg
 have HS1 : Hid (∀ W, Below V12.heap.size V12 W -> Calls Tryz.prog 18 #[.slice (some (aV a4.sB 0)) 2 a4.sC, .slice (some (aV W.heap.size 0)) 2 2] (W.alloc (.cells #[iV 0, iV 100, iV 480, iV 0, iV 1, iV 600, iV (-1), iV (-1)] 50)) fun e w' => e = .returned (.bool true) /\ Below W.heap.size W w') := fun W hb => by
  have h1 := (((HT4.out.tr _ (List.mem_cons_self ..)).st).below hb).below (ba W (.cells #[iV 0, iV 100, iV 480, iV 0, iV 1, iV 600, iV (-1), iV (-1)] 50))
  have h2 := cv (aC W (.cells #[iV 0, iV 100, iV 480, iV 0, iV 1, iV 600, iV (-1), iV (-1)] 50))
  refine (im [⟨0, 100, 480, 0⟩, ⟨1, 600, -1, -1⟩] (some (aV a4.sB 0)) (some (aV W.heap.size 0)) a4.sC 2 _ h1 h2 (by simp)).mono ?_
  rintro e w' ⟨rfl, hb2⟩
  exact ⟨rfl, bt (ba W _) hb2⟩
 have HS2 : Hid (∀ W, Below V12.heap.size V12 W -> Calls Tryz.prog 25 #[.slice a4.eA 1 a4.eC, .slice (some (aV W.heap.size 0)) 1 1] (W.alloc (.cells #[sV [67, 48, 46, 52, 56, 48]] 9)) fun e w' => e = .returned (.bool true) /\ Below W.heap.size W w') := fun W hb => by
  have h1 := (((HT4.out.tr _ (List.mem_cons_self ..)).se).below hb).below (ba W (.cells #[sV [67, 48, 46, 52, 56, 48]] 9))
  have h2 := cv (aC W (.cells #[sV [67, 48, 46, 52, 56, 48]] 9))
  rw [show (az iw1 a4).seals = [[67, 48, 46, 52, 56, 48]] by show [cZ 0 480] = _; rw [exw_s]] at h1
  refine (nn [[67, 48, 46, 52, 56, 48]] a4.eA (some (aV W.heap.size 0)) a4.eC 1 _ h1 h2 (by simp)).mono ?_
  rintro e w' ⟨rfl, hb2⟩
  exact ⟨rfl, bt (ba W _) hb2⟩
 have HS3 : Hid (∀ W, Below V12.heap.size V12 W -> Calls Tryz.prog 18 #[.slice (some (aV a6.sB 0)) 2 a6.sC, .slice (some (aV W.heap.size 0)) 2 2] (W.alloc (.cells #[iV 0, iV 100, iV 1920, iV 0, iV 1, iV 2040, iV (-1), iV (-1)] 50)) fun e w' => e = .returned (.bool true) /\ Below W.heap.size W w') := fun W hb => by
  have h1 := (((HT6.out.tr _ (List.mem_cons_self ..)).st).below hb).below (ba W (.cells #[iV 0, iV 100, iV 1920, iV 0, iV 1, iV 2040, iV (-1), iV (-1)] 50))
  have h2 := cv (aC W (.cells #[iV 0, iV 100, iV 1920, iV 0, iV 1, iV 2040, iV (-1), iV (-1)] 50))
  refine (im [⟨0, 100, 1920, 0⟩, ⟨1, 2040, -1, -1⟩] (some (aV a6.sB 0)) (some (aV W.heap.size 0)) a6.sC 2 _ h1 h2 (by simp)).mono ?_
  rintro e w' ⟨rfl, hb2⟩
  exact ⟨rfl, bt (ba W _) hb2⟩
 have HD0 : Hid (Below V12.heap.size V12 V12.drew) := al (aJ _ _)
 have HSW : Hid (∀ w' : World, Below V12.heap.size V12 w' -> (w'.cell? (aV b4 (o4 + 5)) = some (.slice (some (aV a4.sB 0)) 2 a4.sC) /\ w'.cell? (aV Q 0) = some (iV 0) /\ w'.cell? (aV Q 1) = some (iV 100) /\ w'.cell? (aV Q 2) = some (iV 480) /\ w'.cell? (aV Q 3) = some (iV 0) /\ w'.cell? (aV b4 (o4 + 9)) = some (.slice a4.eA 1 a4.eC) /\ w'.cell? (aV b6 (o6 + 5)) = some (.slice (some (aV a6.sB 0)) 2 a6.sC))) := fun w' hb => by
  have hg := (hb.block _ (aa HG.out)).trans HG.out
  exact ⟨(HT4.out.below hb).at0 rfl, aA 0 hg, aA 1 hg, aA 2 hg, aA 3 hg, (HT4.out.below hb).at0 rfl, (HT6.out.below hb).at0 rfl⟩
 have HF : Hid True := trivial
 go_region_held3 (fun w' => w'.cell? (aV b4 (o4 + 5)) = some (.slice (some (aV a4.sB 0)) 2 a4.sC) /\ w'.cell? (aV Q 0) = some (iV 0) /\ w'.cell? (aV Q 1) = some (iV 100) /\ w'.cell? (aV Q 2) = some (iV 480) /\ w'.cell? (aV Q 3) = some (iV 0) /\ w'.cell? (aV b4 (o4 + 9)) = some (.slice a4.eA 1 a4.eC) /\ w'.cell? (aV b6 (o6 + 5)) = some (.slice (some (aV a6.sB 0)) 2 a6.sC)) (first | (with_reducible exact HSW.out _ HD0.out) | (with_reducible exact HSW.out _ HU1.out) | (with_reducible exact HSW.out _ HU2.out) | (with_reducible exact HSW.out _ HU3.out) | (with_reducible exact HSW.out _ (bt HD0.out (ba _ _))) | (with_reducible exact HSW.out _ (bt HU1.out (ba _ _))) | (with_reducible exact HSW.out _ (bt HU2.out (ba _ _)))) (first
   | (go_at_call 18; have hguard := HF.out; refine (HS1.out _ HD0.out).mono ?_; rintro e u1 ⟨rfl, hb1⟩; have HU1 := aB (bt HD0.out hb1); clear hb1 hguard HF)
   | (go_at_call 25; refine (HS2.out _ HU1.out).mono ?_; rintro e u2 ⟨rfl, hb2⟩; have HU2 := aB (bt HU1.out hb2); clear hb2)
   | (go_at_call 18; refine (HS3.out _ HU2.out).mono ?_; rintro e u3 ⟨rfl, hb3⟩; have HU3 := aB (bt HU2.out hb3); clear hb3)
   | fail)
 clear HS1 HS2 HS3 HSW HD0 HU1 HU2
 replace HS := aB (HS.out.below HU3.out)
 replace HT4 := aB (HT4.out.below HU3.out)
 replace HT6 := aB (HT6.out.below HU3.out)
 replace HT8 := aB (HT8.out.below HU3.out)
 replace HT10 := aB (HT10.out.below HU3.out)
 replace HT14 := aB (HT14.out.below HU3.out)
 replace HR := aB (HR.out.below HU3.out)
 clear HU3 HG
 go_upto_region 14 with fail
 have HS1 : Hid (∀ W, Below u3.heap.size u3 W -> Calls Tryz.prog 18 #[.slice (some (aV a8.sB 0)) 1 a8.sC, .slice (some (aV W.heap.size 0)) 1 1] (W.alloc (.cells #[iV 0, iV 100, iV (-1), iV (-1)] 50)) fun e w' => e = .returned (.bool true) /\ Below W.heap.size W w') := fun W hb => by
  have h1 := (((HT8.out.tr _ (List.mem_cons_self ..)).st).below hb).below (ba W (.cells #[iV 0, iV 100, iV (-1), iV (-1)] 50))
  have h2 := cv (aC W (.cells #[iV 0, iV 100, iV (-1), iV (-1)] 50))
  refine (im [⟨0, 100, -1, -1⟩] (some (aV a8.sB 0)) (some (aV W.heap.size 0)) a8.sC 1 _ h1 h2 (by simp)).mono ?_
  rintro e w' ⟨rfl, hb2⟩
  exact ⟨rfl, bt (ba W _) hb2⟩
 have HS2 : Hid (∀ W, Below u3.heap.size u3 W -> Calls Tryz.prog 18 #[.slice (some (aV a10.sB 0)) 2 a10.sC, .slice (some (aV a4.sB 0)) 2 a4.sC] W fun e w' => e = .returned (.bool true) /\ Below W.heap.size W w') := fun W hb =>
  im [⟨0, 100, 480, 0⟩, ⟨1, 600, -1, -1⟩] (some (aV a10.sB 0)) (some (aV a4.sB 0)) a10.sC a4.sC _ (((HT10.out.tr _ (List.mem_cons_self ..)).st).below hb) (((HT4.out.tr _ (List.mem_cons_self ..)).st).below hb) (by simp)
 have HS3 : Hid (∀ W, Below u3.heap.size u3 W -> Calls Tryz.prog 25 #[.slice (some (aV a14.lB 0)) 2 a14.lC, .slice (some (aV W.heap.size 0)) 2 2] (W.alloc (.cells #[sV [65], sV [66]] 9)) fun e w' => e = .returned (.bool true) /\ Below W.heap.size W w') := fun W hb => by
  have h1 := (((HT14.out.tr _ (List.mem_cons_self ..)).la).below hb).below (ba W (.cells #[sV [65], sV [66]] 9))
  have h2 := cv (aC W (.cells #[sV [65], sV [66]] 9))
  refine (nn [[65], [66]] (some (aV a14.lB 0)) (some (aV W.heap.size 0)) a14.lC 2 _ h1 h2 (by simp)).mono ?_
  rintro e w' ⟨rfl, hb2⟩
  exact ⟨rfl, bt (ba W _) hb2⟩
 have HS4 : Hid (∀ W, Below u3.heap.size u3 W -> Calls Tryz.prog 33 #[.slice (some (aV a14.nB 0)) 2 a14.nC, .slice (some (aV W.heap.size 0)) 2 2] (W.alloc (.cells #[iV 100, iV 200] 3)) fun e w' => e = .returned (.bool true) /\ Below W.heap.size W w') := fun W hb => by
  have h1 := (((HT14.out.tr _ (List.mem_cons_self ..)).si).below hb).below (ba W (.cells #[iV 100, iV 200] 3))
  have h2 := cv (aC W (.cells #[iV 100, iV 200] 3))
  refine (uk [100, 200] (some (aV a14.nB 0)) (some (aV W.heap.size 0)) a14.nC 2 _ h1 h2 (by simp)).mono ?_
  rintro e w' ⟨rfl, hb2⟩
  exact ⟨rfl, bt (ba W _) hb2⟩
 have HD0 : Hid (Below u3.heap.size u3 u3.drew) := al (aJ _ _)
 have HSW : Hid (∀ w' : World, Below u3.heap.size u3 w' -> (w'.cell? (aV b8 (o8 + 5)) = some (.slice (some (aV a8.sB 0)) 1 a8.sC) /\ w'.cell? (aV b8 (o8 + 6)) = some (.bool true) /\ w'.cell? (aV b10 (o10 + 5)) = some (.slice (some (aV a10.sB 0)) 2 a10.sC) /\ w'.cell? (aV b4 (o4 + 5)) = some (.slice (some (aV a4.sB 0)) 2 a4.sC) /\ w'.cell? (aV b10 (o10 + 6)) = some (.bool true) /\ w'.cell? (aV b14 (o14 + 5)) = some (.slice (some (aV a14.sB 0)) 1 a14.sC) /\ w'.cell? (aV b14 (o14 + 10 + 5)) = some (.slice (some (aV a14'.sB 0)) 2 a14'.sC) /\ w'.cell? (aV b14 (o14 + 8)) = some (.slice (some (aV a14.lB 0)) 2 a14.lC) /\ w'.cell? (aV b14 (o14 + 7)) = some (.slice (some (aV a14.nB 0)) 2 a14.nC))) := fun w' hb =>
  ⟨(HT8.out.below hb).at0 rfl, (HT8.out.below hb).at0 rfl, (HT10.out.below hb).at0 rfl, (HT4.out.below hb).at0 rfl, (HT10.out.below hb).at0 rfl, (HT14.out.below hb).at0 rfl, (HT14.out.below hb).at1 rfl, (HT14.out.below hb).at0 rfl, (HT14.out.below hb).at0 rfl⟩
 have HF : Hid True := trivial
 go_region_held3 (fun w' => w'.cell? (aV b8 (o8 + 5)) = some (.slice (some (aV a8.sB 0)) 1 a8.sC) /\ w'.cell? (aV b8 (o8 + 6)) = some (.bool true) /\ w'.cell? (aV b10 (o10 + 5)) = some (.slice (some (aV a10.sB 0)) 2 a10.sC) /\ w'.cell? (aV b4 (o4 + 5)) = some (.slice (some (aV a4.sB 0)) 2 a4.sC) /\ w'.cell? (aV b10 (o10 + 6)) = some (.bool true) /\ w'.cell? (aV b14 (o14 + 5)) = some (.slice (some (aV a14.sB 0)) 1 a14.sC) /\ w'.cell? (aV b14 (o14 + 10 + 5)) = some (.slice (some (aV a14'.sB 0)) 2 a14'.sC) /\ w'.cell? (aV b14 (o14 + 8)) = some (.slice (some (aV a14.lB 0)) 2 a14.lC) /\ w'.cell? (aV b14 (o14 + 7)) = some (.slice (some (aV a14.nB 0)) 2 a14.nC)) (first | (with_reducible exact HSW.out _ HD0.out) | (with_reducible exact HSW.out _ HU1.out) | (with_reducible exact HSW.out _ HU2.out) | (with_reducible exact HSW.out _ HU3.out) | (with_reducible exact HSW.out _ HU4.out) | (with_reducible exact HSW.out _ (bt HD0.out (ba _ _))) | (with_reducible exact HSW.out _ (bt HU1.out (ba _ _))) | (with_reducible exact HSW.out _ (bt HU2.out (ba _ _))) | (with_reducible exact HSW.out _ (bt HU3.out (ba _ _)))) (first
   | (go_at_call 18; have hguard := HF.out; refine (HS1.out _ HD0.out).mono ?_; rintro e t1 ⟨rfl, hb1⟩; have HU1 := aB (bt HD0.out hb1); clear hb1 hguard HF)
   | (go_at_call 18; refine (HS2.out _ HU1.out).mono ?_; rintro e t2 ⟨rfl, hb2⟩; have HU2 := aB (bt HU1.out hb2); clear hb2)
   | (go_at_call 25; refine (HS3.out _ HU2.out).mono ?_; rintro e t3 ⟨rfl, hb3⟩; have HU3 := aB (bt HU2.out hb3); clear hb3)
   | (go_at_call 33; refine (HS4.out _ HU3.out).mono ?_; rintro e t4 ⟨rfl, hb4⟩; have HU4 := aB (bt HU3.out hb4); clear hb4)
   | fail)
 clear HS1 HS2 HS3 HS4 HSW HD0 HU1 HU2 HU3
 replace HS := aB (HS.out.below HU4.out)
 replace HT4 := aB (HT4.out.below HU4.out)
 replace HT6 := aB (HT6.out.below HU4.out)
 replace HT8 := aB (HT8.out.below HU4.out)
 replace HT10 := aB (HT10.out.below HU4.out)
 replace HT14 := aB (HT14.out.below HU4.out)
 replace HR := aB (HR.out.below HU4.out)
 clear HU4
 go_wp2_with fail
 have HS1 : Hid (∀ W, Below t4.heap.size t4 W -> Calls Tryz.prog 30 #[bB n, oB (az iw1 a4)] W fun e w' => e = .returned (.tuple #[iV 720, .bool true]) /\ Below W.heap.size W w') := fun W hb => by
  have h1 := gI n (az iw1 a4) W (HS.out.nin.below hb) (HS.out.kw.below hb) E.out.sound ((HT4.out.tr _ (List.mem_cons_self ..)).below hb) (by simp [az]) (by simp [az]) (by simp [az]) (by simp [az])
  rw [show delR n (az iw1 a4).post (az iw1 a4).stops (az iw1 a4).lost (az iw1 a4).labs = some 720 from E.out.del] at h1
  exact h1
 have HD0 : Hid (Below t4.heap.size t4 t4.drew) := al (aJ _ _)
 have HSW : Hid (∀ w' : World, Below t4.heap.size t4 w' -> (w'.cell? (aV N 0) = some (.slice n.calA n.cals.length n.calC) /\ w'.cell? (aV N 1) = some (.slice n.namA n.names.length n.namC) /\ w'.cell? (aV N 2) = some (.slice n.opA n.ops.length n.opC) /\ w'.cell? (aV N 3) = some (.slice n.offA n.offs.length n.offC) /\ w'.cell? (aV N 4) = some (.slice n.linA n.lins.length n.linC) /\ w'.cell? (aV N 5) = some (.slice n.clsA n.clss.length n.clsC) /\ w'.cell? (aV b4 o4) = some (sV [65]) /\ w'.cell? (aV b4 (o4 + 1)) = some (iV 0) /\ w'.cell? (aV b4 (o4 + 2)) = some (iV 1) /\ w'.cell? (aV b4 (o4 + 3)) = some (iV 0) /\ w'.cell? (aV b4 (o4 + 4)) = some (iV 100) /\ w'.cell? (aV b4 (o4 + 5)) = some (.slice (some (aV a4.sB 0)) 2 a4.sC) /\ w'.cell? (aV b4 (o4 + 6)) = some (.bool false) /\ w'.cell? (aV b4 (o4 + 7)) = some (.slice (some (aV a4.nB 0)) 1 a4.nC) /\ w'.cell? (aV b4 (o4 + 8)) = some (.slice (some (aV a4.lB 0)) 1 a4.lC) /\ w'.cell? (aV b4 (o4 + 9)) = some (.slice a4.eA 1 a4.eC))) := fun w' hb => by
  obtain ⟨⟨n0, n1, n2, n3, n4, n5⟩, -⟩ := (HS.out.below hb).cells
  have ht := HT4.out.below hb
  exact ⟨n0, n1, n2, n3, n4, n5, ht.at0 (j := 0) rfl, ht.at0 rfl, ht.at0 rfl, ht.at0 rfl, ht.at0 rfl, ht.at0 rfl, ht.at0 rfl, ht.at0 rfl, ht.at0 rfl, ht.at0 rfl⟩
 go_region_held3 (fun w' => w'.cell? (aV N 0) = some (.slice n.calA n.cals.length n.calC) /\ w'.cell? (aV N 1) = some (.slice n.namA n.names.length n.namC) /\ w'.cell? (aV N 2) = some (.slice n.opA n.ops.length n.opC) /\ w'.cell? (aV N 3) = some (.slice n.offA n.offs.length n.offC) /\ w'.cell? (aV N 4) = some (.slice n.linA n.lins.length n.linC) /\ w'.cell? (aV N 5) = some (.slice n.clsA n.clss.length n.clsC) /\ w'.cell? (aV b4 o4) = some (sV [65]) /\ w'.cell? (aV b4 (o4 + 1)) = some (iV 0) /\ w'.cell? (aV b4 (o4 + 2)) = some (iV 1) /\ w'.cell? (aV b4 (o4 + 3)) = some (iV 0) /\ w'.cell? (aV b4 (o4 + 4)) = some (iV 100) /\ w'.cell? (aV b4 (o4 + 5)) = some (.slice (some (aV a4.sB 0)) 2 a4.sC) /\ w'.cell? (aV b4 (o4 + 6)) = some (.bool false) /\ w'.cell? (aV b4 (o4 + 7)) = some (.slice (some (aV a4.nB 0)) 1 a4.nC) /\ w'.cell? (aV b4 (o4 + 8)) = some (.slice (some (aV a4.lB 0)) 1 a4.lC) /\ w'.cell? (aV b4 (o4 + 9)) = some (.slice a4.eA 1 a4.eC)) (first | (with_reducible exact HSW.out _ HD0.out) | (with_reducible exact HSW.out _ HU1.out)) (first
   | (go_at_call 30; refine (HS1.out _ HD0.out).mono ?_; rintro e t5 ⟨rfl, hb1⟩; have HU1 := aB (bt HD0.out hb1); clear hb1)
   | fail)
 clear HS1 HD0 HSW
 replace HS := aB (HS.out.below HU1.out)
 replace HT4 := aB (HT4.out.below HU1.out)
 replace HT6 := aB (HT6.out.below HU1.out)
 replace HT8 := aB (HT8.out.below HU1.out)
 replace HT10 := aB (HT10.out.below HU1.out)
 replace HT14 := aB (HT14.out.below HU1.out)
 replace HR := aB (HR.out.below HU1.out)
 clear HU1
 go_wp2_with fail
 have HS1 : Hid (∀ W, Below t5.heap.size t5 W -> Calls Tryz.prog 30 #[bB n, oB (az iw4 a10)] W fun e w' => e = .returned (.tuple #[iV 0, .bool false]) /\ Below W.heap.size W w') := fun W hb => by
  have h1 := gI n (az iw4 a10) W (HS.out.nin.below hb) (HS.out.kw.below hb) E.out.sound ((HT10.out.tr _ (List.mem_cons_self ..)).below hb) (by simp [az]) (by simp [az]) (by simp [az]) (by simp [az])
  rw [show delR n (az iw4 a10).post (az iw4 a10).stops (az iw4 a10).lost (az iw4 a10).labs = none from if_pos (.inl rfl)] at h1
  exact h1
 have HD0 : Hid (Below t5.heap.size t5 t5.drew) := al (aJ _ _)
 have HSW : Hid (∀ w' : World, Below t5.heap.size t5 w' -> (w'.cell? (aV N 0) = some (.slice n.calA n.cals.length n.calC) /\ w'.cell? (aV N 1) = some (.slice n.namA n.names.length n.namC) /\ w'.cell? (aV N 2) = some (.slice n.opA n.ops.length n.opC) /\ w'.cell? (aV N 3) = some (.slice n.offA n.offs.length n.offC) /\ w'.cell? (aV N 4) = some (.slice n.linA n.lins.length n.linC) /\ w'.cell? (aV N 5) = some (.slice n.clsA n.clss.length n.clsC) /\ w'.cell? (aV b10 o10) = some (sV [65]) /\ w'.cell? (aV b10 (o10 + 1)) = some (iV 0) /\ w'.cell? (aV b10 (o10 + 2)) = some (iV 1) /\ w'.cell? (aV b10 (o10 + 3)) = some (iV 0) /\ w'.cell? (aV b10 (o10 + 4)) = some (iV 100) /\ w'.cell? (aV b10 (o10 + 5)) = some (.slice (some (aV a10.sB 0)) 2 a10.sC) /\ w'.cell? (aV b10 (o10 + 6)) = some (.bool true) /\ w'.cell? (aV b10 (o10 + 7)) = some (.slice (some (aV a10.nB 0)) 1 a10.nC) /\ w'.cell? (aV b10 (o10 + 8)) = some (.slice (some (aV a10.lB 0)) 1 a10.lC) /\ w'.cell? (aV b10 (o10 + 9)) = some (.slice a10.eA 1 a10.eC))) := fun w' hb => by
  obtain ⟨⟨n0, n1, n2, n3, n4, n5⟩, -⟩ := (HS.out.below hb).cells
  have ht := HT10.out.below hb
  exact ⟨n0, n1, n2, n3, n4, n5, ht.at0 (j := 0) rfl, ht.at0 rfl, ht.at0 rfl, ht.at0 rfl, ht.at0 rfl, ht.at0 rfl, ht.at0 rfl, ht.at0 rfl, ht.at0 rfl, ht.at0 rfl⟩
 go_region_held3 (fun w' => w'.cell? (aV N 0) = some (.slice n.calA n.cals.length n.calC) /\ w'.cell? (aV N 1) = some (.slice n.namA n.names.length n.namC) /\ w'.cell? (aV N 2) = some (.slice n.opA n.ops.length n.opC) /\ w'.cell? (aV N 3) = some (.slice n.offA n.offs.length n.offC) /\ w'.cell? (aV N 4) = some (.slice n.linA n.lins.length n.linC) /\ w'.cell? (aV N 5) = some (.slice n.clsA n.clss.length n.clsC) /\ w'.cell? (aV b10 o10) = some (sV [65]) /\ w'.cell? (aV b10 (o10 + 1)) = some (iV 0) /\ w'.cell? (aV b10 (o10 + 2)) = some (iV 1) /\ w'.cell? (aV b10 (o10 + 3)) = some (iV 0) /\ w'.cell? (aV b10 (o10 + 4)) = some (iV 100) /\ w'.cell? (aV b10 (o10 + 5)) = some (.slice (some (aV a10.sB 0)) 2 a10.sC) /\ w'.cell? (aV b10 (o10 + 6)) = some (.bool true) /\ w'.cell? (aV b10 (o10 + 7)) = some (.slice (some (aV a10.nB 0)) 1 a10.nC) /\ w'.cell? (aV b10 (o10 + 8)) = some (.slice (some (aV a10.lB 0)) 1 a10.lC) /\ w'.cell? (aV b10 (o10 + 9)) = some (.slice a10.eA 1 a10.eC)) (first | (with_reducible exact HSW.out _ HD0.out) | (with_reducible exact HSW.out _ HU1.out)) (first
   | (go_at_call 30; refine (HS1.out _ HD0.out).mono ?_; rintro e t6 ⟨rfl, hb1⟩; have HU1 := aB (bt HD0.out hb1); clear hb1)
   | fail)
 clear HS1 HD0 HSW
 replace HS := aB (HS.out.below HU1.out)
 replace HT4 := aB (HT4.out.below HU1.out)
 replace HT6 := aB (HT6.out.below HU1.out)
 replace HT8 := aB (HT8.out.below HU1.out)
 replace HT10 := aB (HT10.out.below HU1.out)
 replace HT14 := aB (HT14.out.below HU1.out)
 replace HR := aB (HR.out.below HU1.out)
 clear HU1
 have k0 : t6.cell? (aV b4 o4) = some (sV [65]) := HT4.out.at0 (j := 0) rfl
 have k1 : t6.cell? (aV b4 (o4 + 1)) = some (iV 0) := HT4.out.at0 rfl
 have k2 : t6.cell? (aV b4 (o4 + 2)) = some (iV 1) := HT4.out.at0 rfl
 have k3 : t6.cell? (aV b4 (o4 + 3)) = some (iV 0) := HT4.out.at0 rfl
 have k4 : t6.cell? (aV b4 (o4 + 4)) = some (iV 100) := HT4.out.at0 rfl
 have k5 : t6.cell? (aV b4 (o4 + 5)) = some (.slice (some (aV a4.sB 0)) 2 a4.sC) := HT4.out.at0 rfl
 have k6 : t6.cell? (aV b4 (o4 + 6)) = some (.bool false) := HT4.out.at0 rfl
 have k7 : t6.cell? (aV b4 (o4 + 7)) = some (.slice (some (aV a4.nB 0)) 1 a4.nC) := HT4.out.at0 rfl
 have k8 : t6.cell? (aV b4 (o4 + 8)) = some (.slice (some (aV a4.lB 0)) 1 a4.lC) := HT4.out.at0 rfl
 have k9 : t6.cell? (aV b4 (o4 + 9)) = some (.slice a4.eA 1 a4.eC) := HT4.out.at0 rfl
 go_wp2_with fail
 have hcall := pG (az iw1 a4) 481 t6 (HT4.out.tr _ (List.mem_cons_self ..)) (by simp [az])
 rw [show nr (az iw1 a4).stops 481 = some (-1, 0) by kernel_rfl, show spV (some (-1, 0)) = .tuple #[.agg #[iV (-1), iV 0], .bool true] from rfl] at hcall
 have HCALL := aB hcall
 clear hcall k0 k1 k2 k3 k4 k5 k6 k7 k8 k9
 refine HCALL.out.mono ?_
 rintro e t7 ⟨rfl, hb⟩
 clear HCALL
 replace HS := aB (HS.out.below hb)
 replace HT4 := aB (HT4.out.below hb)
 replace HT6 := aB (HT6.out.below hb)
 replace HT8 := aB (HT8.out.below hb)
 replace HT10 := aB (HT10.out.below hb)
 replace HT14 := aB (HT14.out.below hb)
 replace HR := aB (HR.out.below hb)
 clear hb
 go_upto_region 18 with fail
 have hb := ba t7 (.cells #[iV (-1), iV 0] 67)
 have hg := aC t7 (.cells #[iV (-1), iV 0] 67)
 replace HS := aB (HS.out.below hb)
 replace HT4 := aB (HT4.out.below hb)
 replace HT6 := aB (HT6.out.below hb)
 replace HT8 := aB (HT8.out.below hb)
 replace HT10 := aB (HT10.out.below hb)
 replace HT14 := aB (HT14.out.below hb)
 replace HR := aB (HR.out.below hb)
 change Code.wp _ _ _ _ (t7.alloc (.cells #[iV (-1), iV 0] 67))
 generalize (t7.alloc (.cells #[iV (-1), iV 0] 67)) = t7' at *
 generalize t7.heap.size = X23 at hg ⊢
 have HX := aB hg
 clear hg hb
 have k0 : t7'.cell? (aV b4 o4) = some (sV [65]) := HT4.out.at0 (j := 0) rfl
 have k1 : t7'.cell? (aV b4 (o4 + 1)) = some (iV 0) := HT4.out.at0 rfl
 have k2 : t7'.cell? (aV b4 (o4 + 2)) = some (iV 1) := HT4.out.at0 rfl
 have k3 : t7'.cell? (aV b4 (o4 + 3)) = some (iV 0) := HT4.out.at0 rfl
 have k4 : t7'.cell? (aV b4 (o4 + 4)) = some (iV 100) := HT4.out.at0 rfl
 have k5 : t7'.cell? (aV b4 (o4 + 5)) = some (.slice (some (aV a4.sB 0)) 2 a4.sC) := HT4.out.at0 rfl
 have k6 : t7'.cell? (aV b4 (o4 + 6)) = some (.bool false) := HT4.out.at0 rfl
 have k7 : t7'.cell? (aV b4 (o4 + 7)) = some (.slice (some (aV a4.nB 0)) 1 a4.nC) := HT4.out.at0 rfl
 have k8 : t7'.cell? (aV b4 (o4 + 8)) = some (.slice (some (aV a4.lB 0)) 1 a4.lC) := HT4.out.at0 rfl
 have k9 : t7'.cell? (aV b4 (o4 + 9)) = some (.slice a4.eA 1 a4.eC) := HT4.out.at0 rfl
 go_wp2_with fail
 have hcall := pG (az iw1 a4) 99 t7' (HT4.out.tr _ (List.mem_cons_self ..)) (by simp [az])
 rw [show nr (az iw1 a4).stops 99 = none by kernel_rfl, show spV (none) = .tuple #[.agg #[iV 0, iV 0], .bool false] from rfl] at hcall
 have HCALL := aB hcall
 clear hcall k0 k1 k2 k3 k4 k5 k6 k7 k8 k9
 refine HCALL.out.mono ?_
 rintro e t8 ⟨rfl, hb⟩
 clear HCALL
 replace HS := aB (HS.out.below hb)
 replace HT4 := aB (HT4.out.below hb)
 replace HT6 := aB (HT6.out.below hb)
 replace HT8 := aB (HT8.out.below hb)
 replace HT10 := aB (HT10.out.below hb)
 replace HT14 := aB (HT14.out.below hb)
 replace HR := aB (HR.out.below hb)
 replace HX := aB ((Below.block hb _ (aa HX.out)).trans HX.out)
 clear hb
 go_upto_region 19 with fail
 have hb := ba t8 (.cells #[iV 0, iV 0] 67)
 have hg := aC t8 (.cells #[iV 0, iV 0] 67)
 replace HS := aB (HS.out.below hb)
 replace HT4 := aB (HT4.out.below hb)
 replace HT6 := aB (HT6.out.below hb)
 replace HT8 := aB (HT8.out.below hb)
 replace HT10 := aB (HT10.out.below hb)
 replace HT14 := aB (HT14.out.below hb)
 replace HR := aB (HR.out.below hb)
 replace HX := aB ((Below.block hb _ (aa HX.out)).trans HX.out)
 change Code.wp _ _ _ _ (t8.alloc (.cells #[iV 0, iV 0] 67))
 generalize (t8.alloc (.cells #[iV 0, iV 0] 67)) = t8' at *
 generalize t8.heap.size = X25 at hg ⊢
 clear hg hb
 have x0 : t8'.cell? (aV X23 0) = some (iV (-1)) := aA 0 HX.out
 have x1 : t8'.cell? (aV X23 1) = some (iV 0) := aA 1 HX.out
 obtain ⟨⟨n0, n1, n2, n3, n4, n5⟩, ⟨p0, p1, p2, p3⟩, d0, d1, d2, d3, d4, d5, d6, d7, d8, d9⟩ := HS.out.cells
 go_wp2_with fail
 clear n0 n1 n2 n3 n4 n5 p0 p1 p2 p3 d0 d1 d2 d3 d4 d5 d6 d7 d8 d9 x0 x1
 have hb := ba t8' (dm [a7])
 have hg := aC t8' (dm [a7])
 have hS := HS.out.below hb
 have hcall := hS.clean E.out (ds := [a7]) (m := 1) rfl E.out.d1 (by simp) [65] (some (aV t8'.heap.size 0)) 1 (jq hg)
 rw [E.out.cl1] at hcall
 have HCALL := aB hcall
 replace HS := aB (HS.out.below hb)
 replace HT4 := aB (HT4.out.below hb)
 replace HT6 := aB (HT6.out.below hb)
 replace HT8 := aB (HT8.out.below hb)
 replace HT10 := aB (HT10.out.below hb)
 replace HT14 := aB (HT14.out.below hb)
 replace HR := aB (HR.out.below hb)
 replace HX := aB ((Below.block hb _ (aa HX.out)).trans HX.out)
 clear hb hg hS hcall
 change Calls _ _ #[bB n, dI 0 0 C 2 2 none 0 0, .slice (some (aV t8'.heap.size 0)) 1 1, sV [65]] (t8'.alloc (dm [a7])) _
 generalize t8'.alloc (dm [a7]) = t9 at *
 with_reducible refine HCALL.out.mono ?_
 rintro e t10 ⟨rfl, hb⟩
 clear HCALL
 replace HS := aB (HS.out.below hb)
 replace HT4 := aB (HT4.out.below hb)
 replace HT6 := aB (HT6.out.below hb)
 replace HT8 := aB (HT8.out.below hb)
 replace HT10 := aB (HT10.out.below hb)
 replace HT14 := aB (HT14.out.below hb)
 replace HR := aB (HR.out.below hb)
 replace HX := aB ((Below.block hb _ (aa HX.out)).trans HX.out)
 clear hb
 obtain ⟨⟨n0, n1, n2, n3, n4, n5⟩, ⟨p0, p1, p2, p3⟩, d0, d1, d2, d3, d4, d5, d6, d7, d8, d9⟩ := HS.out.cells
 go_wp2_with fail
 clear n0 n1 n2 n3 n4 n5 p0 p1 p2 p3 d0 d1 d2 d3 d4 d5 d6 d7 d8 d9
 have hcall := HS.out.clean E.out (ds := [a7, ez, eK]) (m := 3) rfl E.out.d5 (by simp) [65] (some (aV G 0)) 3 HR.out
 rw [E.out.cl5] at hcall
 have HCALL := aB hcall
 clear hcall
 with_reducible refine HCALL.out.mono ?_
 rintro e t11 ⟨rfl, hb⟩
 clear HCALL
 replace HS := aB (HS.out.below hb)
 replace HT4 := aB (HT4.out.below hb)
 replace HT6 := aB (HT6.out.below hb)
 replace HT8 := aB (HT8.out.below hb)
 replace HT10 := aB (HT10.out.below hb)
 replace HT14 := aB (HT14.out.below hb)
 replace HR := aB (HR.out.below hb)
 replace HX := aB ((Below.block hb _ (aa HX.out)).trans HX.out)
 clear hb
 obtain ⟨⟨n0, n1, n2, n3, n4, n5⟩, ⟨p0, p1, p2, p3⟩, d0, d1, d2, d3, d4, d5, d6, d7, d8, d9⟩ := HS.out.cells
 go_wp2_with fail
 clear n0 n1 n2 n3 n4 n5 p0 p1 p2 p3 d0 d1 d2 d3 d4 d5 d6 d7 d8 d9
 refine (gg n _ HS.out.nin HS.out.kw).mono ?_
 rintro e t12 ⟨A, m, c, xs, rfl, -, -, hm, -, hb⟩
 obtain rfl : m = 0 := hm.2 E.out.sound
 have HZ : Hid (Below w.heap.size w t12) := HS.out.bel.trans (hb.mono HS.out.bel.size)
 clear hb hm
 go_wp2_with fail
 go_ret
 exact ⟨rfl, HZ.out⟩
end
end Go.Proofs.YtpeaiphdkgifaaaGreatDoor
