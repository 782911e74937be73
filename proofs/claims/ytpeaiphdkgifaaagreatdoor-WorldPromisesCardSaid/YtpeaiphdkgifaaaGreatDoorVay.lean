/- The walk over hold. A line is cancelled: the map of the cancelled -/
import Derived.Test.YtpeaiphdkgifaaaGreatDoorVax
import Derived.Test.YtpeaiphdkgifaaaGreatDoorVai
namespace Go.Proofs.YtpeaiphdkgifaaaGreatDoor
open Go.RowKit
set_option maxHeartbeats 20000000
set_option maxRecDepth 100000
theorem wt (w W : World) (n : Net) (nx : List NsC) (nxA : Option Addr) (nxC : Nat) (h : Hst) (A : HsA) (d : Ded) (hS : bM n) (H : WdH w W n nx nxA nxC h A) (hD : ∀ it ∈ h.items, it.holds <= 100000 /\ -1 <= it.line /\ (0 <= it.line -> it.line < n.lins.length /\ 0 <= it.leave /\ it.leave <= 2100000)) (hn : (h.items.map fun i => i.post.label).Nodup) (hl : d.label.length <= 1000) (hi : ∃ i ∈ h.items, i.post.label = d.label) (hk : d.kind = 3) :
  Calls Tryz.prog 96 #[.pointer (some (aV A.hb 0)), kF d] W fun e W' => e = .returned (.tuple #[]) /\ WdH w W' n nx nxA nxC (dR n nx h d) A := by
 have hb0 : Below W.heap.size W (W.alloc (an d)).drew := al (ba W (an d))
 have hx0 : (W.alloc (an d)).drew.heap[W.heap.size]? = some (an d) := aC W (an d)
 have H0 := H.below hb0
 obtain ⟨k, it, a, h1, h2, h3, h4, hlk⟩ := H0.look hl hi
 obtain ⟨g1, g2, g3⟩ := hD it (aF h1)
 have hit := H0.hs.item k it a h1 h2
 have hbl := H0.hs.blks h2
 obtain ⟨lv, hlv, hlv2, hrow⟩ := hit.cells
 have c8 : (W.alloc (an d)).drew.cell? (aV A.hb 8) = some (.map (some A.nm)) := H0.hs.cell rfl
 have c7 : (W.alloc (an d)).drew.cell? (aV W.heap.size 7) = some (sV d.label) := aA 7 hx0
 have c10 : (W.alloc (an d)).drew.cell? (aV a.b 10) = some (iV it.holds) := aA 10 hrow
 have c11 : (W.alloc (an d)).drew.cell? (aV a.b 11) = some (iV it.line) := aA 11 hrow
 have f10 : (W.alloc (an d)).drew.frozen? (aV a.b 10) = false := ac hrow 10
 have hlk0 := hlk _ (aJ _ _)
 have e1 : IntKind.i64.wrap ((it.holds : Int) + 1) = (it.holds : Int) + 1 := aO _ (by omega)
 have hrow1 : ((W.alloc (an d)).drew.setCell (aV a.b 10) (iV ((it.holds : Int) + 1))).heap[a.b]? = some (.cells (fQ { it with holds := it.holds + 1 } a lv) 103 (0, 0)) := bE hrow 10 (iV ((it.holds : Int) + 1))
 have hs1 : cD w.heap.size ((W.alloc (an d)).drew.setCell (aV a.b 10) (iV ((it.holds : Int) + 1))) { it with holds := it.holds + 1 } a := hit.store hrow hbl.1 rfl rfl rfl rfl rfl ⟨hlv, hlv2⟩
 have hg1 : bz a.blks (W.alloc (an d)).drew ((W.alloc (an d)).drew.setCell (aV a.b 10) (iV ((it.holds : Int) + 1))) := dW _ _ _ (by simp [ItA.blks])
 have H1 : WdH w ((W.alloc (an d)).drew.setCell (aV a.b 10) (iV ((it.holds : Int) + 1))) n nx nxA nxC { h with items := h.items.set k { it with holds := it.holds + 1 } } A := by
  have := H0.upd (it' := { it with holds := it.holds + 1 }) h1 h2 ⟨hs1, hg1, fun b hb => .inl hb, hbl.1, rfl⟩ rfl
  rwa [cO h2] at this
 have hg : (h.items.set k { it with holds := it.holds + 1 })[k]? = some { it with holds := it.holds + 1 } := by rw [List.getElem?_set, if_pos rfl, if_pos (aE.1 h1).1]
 have hact : dR n nx h d = { h with items := h.items.set k (dO n it) } := by
  unfold dR
  rw [if_neg (by omega), if_neg (by omega), if_pos hk, map_set hn h1 h3]
 rw [hact]
 have HEND : Hid (∀ W' it' , it'.post = it.post -> dS w.heap.size ((W.alloc (an d)).drew.setCell (aV a.b 10) (iV ((it.holds : Int) + 1))) W' a a it' -> dO n it = it' -> WdH w W' n nx nxA nxC { h with items := h.items.set k (dO n it) } A) := fun W' it' q1 q2 q3 => by
  have := H1.upd hg h2 q2 q1
  rw [cO h2] at this
  rw [q3]
  simpa using this
 have HR1 := aB hrow1
 have HS1 := aB hs1
 have HH1 := aB H1
 have HBL := aB hbl
 have HG := aB (⟨g2, g3⟩ : -1 <= it.line /\ (0 <= it.line -> it.line < n.lins.length /\ 0 <= it.leave /\ it.leave <= 2100000))
 have HLV := aB (⟨hlv, hlv2⟩ : I64 lv /\ (0 <= it.line -> lv = it.leave))
 clear hs1 hg1 H1 hg H0 H hx0 hb0 hit hbl hrow hrow1 hlv hlv2 hlk h1 h2 h3 h4 hi hl hn hD hk hact g1 g2 g3
 go_enter Tryz.func96, Tryz.ntmps96
 go_upto_region 1 with fail
 go_region
 change Exit.then _ _ _ _ (W.alloc (an d)).drew
 generalize (W.alloc (an d)).drew = W1 at *
 by_cases hneg : it.line < 0
 case pos =>
  have hh : dO n it = { it with holds := it.holds + 1 } := by unfold dO; rw [if_pos hneg]
  have HHI := aB hh
  clear hh
  go_wp2_with fail
  exact bodyPost_ret (results_none rfl _ _ _) rfl ⟨rfl, HEND.out _ { it with holds := it.holds + 1 } rfl ⟨HS1.out, bz.refl _ _, fun b hb => .inl hb, HBL.out.1, rfl⟩ HHI.out⟩
 go_upto_region 4 with fail
 have hlv : lv = it.leave := HLV.out.2 (by omega)
 subst hlv
 change Code.wp _ _ _ _ (W1.setCell (aV a.b 10) (iV ((it.holds : Int) + 1)))
 clear c8 c7 c10 c11 f10 hlk0 e1
 generalize (W1.setCell (aV a.b 10) (iV ((it.holds : Int) + 1))) = W2 at *
 have HST : Hid (∀ W', Below W2.heap.size W2 W' -> W'.cell? (aV A.hb 0) = some (.slice n.calA n.cals.length n.calC) /\ W'.cell? (aV A.hb 1) = some (.slice n.namA n.names.length n.namC) /\ W'.cell? (aV A.hb 2) = some (.slice n.opA n.ops.length n.opC) /\ W'.cell? (aV A.hb 3) = some (.slice n.offA n.offs.length n.offC) /\ W'.cell? (aV A.hb 4) = some (.slice n.linA n.lins.length n.linC) /\ W'.cell? (aV A.hb 5) = some (.slice n.clsA n.clss.length n.clsC) /\ W'.cell? (aV a.b 11) = some (iV it.line) /\ W'.cell? (aV a.b 12) = some (iV it.leave)) := fun W' hb =>
  ⟨ag hb (HH1.out.hs.cell rfl), ag hb (HH1.out.hs.cell rfl), ag hb (HH1.out.hs.cell rfl), ag hb (HH1.out.hs.cell rfl), ag hb (HH1.out.hs.cell rfl), ag hb (HH1.out.hs.cell rfl), ag hb (aA 11 HR1.out), ag hb (aA 12 HR1.out)⟩
 obtain ⟨k1, k2, k3⟩ := HG.out.2 (by omega)
 have e2 : IntKind.i64.wrap (it.leave + 1) = it.leave + 1 := aO _ (by omega)
 have HN0 : Hid (0 <= it.line) := aB (by omega)
 have HN1 := aB k1
 have HNE := aB hneg
 clear k1 k2 k3 hneg
 obtain ⟨v, er, hve⟩ : ∃ v er, eh n it.line (it.leave + 1) = (v, er) := ⟨_, _, rfl⟩
 have HVE := aB hve
 clear hve
 have HCA : Hid (∀ W', Below W2.heap.size W2 W' -> Calls Tryz.prog 15 #[bB n, iV it.line, iV (it.leave + 1)] W' fun e w' => e = .returned (.tuple #[iV v, iV er]) /\ Below W'.heap.size W' w') := fun W' hb => by
  have := pB n it.line (it.leave + 1) W' (HH1.out.below hb).net (HH1.out.below hb).kw hS HN0.out HN1.out
  rwa [HVE.out] at this
 go_region_held3 (fun w' => w'.cell? (aV A.hb 0) = some (.slice n.calA n.cals.length n.calC) /\ w'.cell? (aV A.hb 1) = some (.slice n.namA n.names.length n.namC) /\ w'.cell? (aV A.hb 2) = some (.slice n.opA n.ops.length n.opC) /\ w'.cell? (aV A.hb 3) = some (.slice n.offA n.offs.length n.offC) /\ w'.cell? (aV A.hb 4) = some (.slice n.linA n.lins.length n.linC) /\ w'.cell? (aV A.hb 5) = some (.slice n.clsA n.clss.length n.clsC) /\ w'.cell? (aV a.b 11) = some (iV it.line) /\ w'.cell? (aV a.b 12) = some (iV it.leave)) (first | (with_reducible exact HST.out _ (al (aJ _ _))) | (with_reducible exact HST.out _ HB3.out)) (first
  | (go_at_call 15; refine (HCA.out _ (al (aJ _ _))).mono ?_; rintro e w3 ⟨rfl, hb⟩; have HB3 := aB (bdr hb); clear hb)
  | fail)
 obtain ⟨-, -, -, -, -, -, m11, m12⟩ := HST.out _ HB3.out
 have hr3 := (HB3.out.block _ (aa HR1.out)).trans HR1.out
 have x11 : w3.frozen? (aV a.b 11) = false := ac hr3 11
 have x12 : w3.frozen? (aV a.b 12) = false := ac hr3 12
 have hs3 := HS1.out.below HB3.out
 have hc3 : bz a.blks W2 w3 := bz.of_below HB3.out
 have HT := aB (⟨hr3, hs3, hc3⟩ : w3.heap[a.b]? = _ /\ cD w.heap.size w3 _ a /\ bz a.blks W2 w3)
 clear hr3 hs3 hc3
 by_cases her : er = 0
 case neg =>
  have hh : dO n it = { it with holds := it.holds + 1, line := -1, leave := 0 } := by unfold dO; rw [if_neg (by have := HNE.out; omega), HVE.out, if_neg her]
  have HHI := aB hh
  clear hh
  go_wp2_with fail
  refine bodyPost_ret (results_none rfl _ _ _) rfl ⟨rfl, HEND.out _ { it with holds := it.holds + 1, line := -1, leave := 0 } rfl ⟨HT.out.2.1.store HT.out.1 HBL.out.1 (i := 11) (v := iV (-1)) rfl rfl rfl rfl rfl ⟨HLV.out.1, fun e => absurd (show (0 : Int) <= -1 from e) (by decide)⟩, HT.out.2.2.trans (dW _ _ _ (by simp [ItA.blks])) (fun _ hb => .inl hb), fun b hb => .inl hb, HBL.out.1, rfl⟩ HHI.out⟩
 subst her
 have hh : dO n it = { it with holds := it.holds + 1, leave := v } := by unfold dO; rw [if_neg (by have := HNE.out; omega), HVE.out, if_pos rfl]
 have HHI := aB hh
 have hv := kD hS.1.good HN0.out HN1.out HVE.out
 have hv2 : I64 v := by unfold I64; omega
 have HV2 := aB hv2
 clear hh hv hv2
 go_wp2_with fail
 exact bodyPost_end (results_none rfl _ _ _) rfl ⟨rfl, HEND.out _ { it with holds := it.holds + 1, leave := v } rfl ⟨HT.out.2.1.store HT.out.1 HBL.out.1 (i := 12) (v := iV v) rfl rfl rfl rfl rfl ⟨HV2.out, fun _ => rfl⟩, HT.out.2.2.trans (dW _ _ _ (by simp [ItA.blks])) (fun _ hb => .inl hb), fun b hb => .inl hb, HBL.out.1, rfl⟩ HHI.out⟩
theorem rS (canc : List Int) (l : Int) : (fun x => if x = l then some (.bool true) else mS canc x) = mS (l :: canc) := by
 funext x
 unfold mS
 by_cases e : x = l
 ·simp [e]
 ·simp [e]
theorem WdH.canc {w W W' : World} {n : Net} {nx : List NsC} {nxA : Option Addr} {nxC : Nat} {h : Hst} {A : HsA} {l : Int} {m : Nat} (H : WdH w W n nx nxA nxC h A) (hm : dG Tryz.prog 3 W' A.cm m (updF (mH (mS h.canc)) (iV l) (.bool true))) (hg : W.grownBy W' (some A.cm)) :
  WdH w W' n nx nxA nxC { h with canc := l :: h.canc } A := by
 have hc : bz [A.cm] W W' := bz.of_grown hg (fun x hx => by cases hx; simp)
 have hnd := H.hs.nodup
 have hcm : A.cm ∈ A.own := by simp [HsA.own]
 obtain ⟨n1, n2, n3⟩ := List.nodup_append.1 hnd
 have hne : A.hb ≠ A.cm /\ A.nm ≠ A.cm /\ A.ab ≠ A.cm /\ A.eb ≠ A.cm /\ ∀ b ∈ (A.iB.map (·.block)).toList, b ≠ A.cm := by
  have n1' : ([A.hb, A.nm, A.cm, A.ab, A.eb] ++ (A.iB.map (·.block)).toList).Nodup := n1
  obtain ⟨p1, -, p3⟩ := List.nodup_append.1 n1'
  simp at p1
  exact ⟨by grind, by grind, by grind, by grind, fun b hb e => p3 A.cm (by simp) b hb e.symm⟩
 refine ⟨H.old, ⟨(hc.block _ (aa H.hs.blk) (by simpa using hne.1)).trans H.hs.blk, H.hs.ge, H.hs.len, cx H.hs.row hc (fun b hb => ?_), H.hs.nam.kept (hc.block _ H.hs.nam.lt (by simpa using hne.2.1)), ⟨m, ?_⟩, ⟨H.hs.act.1, (hc.block _ (aa H.hs.act.2) (by simpa using hne.2.2.1)).trans H.hs.act.2⟩, ⟨H.hs.act2.1, (hc.block _ (aa H.hs.act2.2) (by simpa using hne.2.2.2.1)).trans H.hs.act2.2⟩, fun i it a h1 h2 => (H.hs.item i it a h1 h2).chg hc (fun b hb hb2 => ?_), hnd⟩, H.bel.trans (hc.below H.bel.size (fun b hb => ?_))⟩
 ·cases he : A.iB with
  | none => rw [he] at hb; cases hb
  | some x =>
   rw [he] at hb
   cases hb
   simpa using hne.2.2.2.2 x.block (by rw [he]; simp)
 ·rw [dM, rS] at hm
  exact hm
 ·rw [aR.1 hb2] at hb
  exact (H.hs.blks h2).2.2 _ hcm hb
 ·rw [aR.1 hb]
  exact H.hs.ge.2.2
abbrev qg (n : Net) (nxA : Option Addr) (nxL nxC : Nat) (iA : Option Addr) (iL iC nm cm : Nat) : Array Value := #[.slice n.calA n.cals.length n.calC, .slice n.namA n.names.length n.namC, .slice n.opA n.ops.length n.opC, .slice n.offA n.offs.length n.offC, .slice n.linA n.lins.length n.linC, .slice n.clsA n.clss.length n.clsC, .slice nxA nxL nxC, .slice iA iL iC, .map (some nm), .map (some cm)]
theorem tZ {items : List Itm} {its : List ItA} (hl : its.length = items.length) {it : Itm} {a : ItA} (hn : it.post.label ∉ items.map fun i => i.post.label) : (fun x => if x = it.post.label then some (.pointer (some (aV a.b 0))) else jU items its x) = jU (items ++ [it]) (its ++ [a]) := by
 funext x
 unfold jU
 rw [List.zip_append hl.symm, List.find?_append]
 by_cases e : x = it.post.label
 ·subst e
  have hno : (items.zip its).find? (fun p => p.1.post.label == it.post.label) = none := by
   rw [List.find?_eq_none]
   intro p hp
   have hm : p.1 ∈ items := (List.of_mem_zip hp).1
   have hne : p.1.post.label ≠ it.post.label := fun e => hn (List.mem_map.2 ⟨p.1, hm, e⟩)
   simpa using hne
  rw [hno]
  simp
 ·rw [if_neg e]
  have hz : ([it].zip [a]).find? (fun p => p.1.post.label == x) = none := by
   have : ¬ it.post.label = x := fun h => e h.symm
   simp [this]
  rw [hz]
  simp
theorem fM.post {base : Nat} {W W' : World} {n : Net} {nxA : Option Addr} {nxL nxC : Nat} {h : Hst} {A : HsA} {it : Itm} {a : ItA} {iB' : Addr} {iC' : Nat} {S : List Nat}
  (H : fM base W n nxA nxL nxC h A) (hc : bz S W W') (hS : ∀ b ∈ S, b ∈ [A.hb, A.nm] ++ (A.iB.map (·.block)).toList)
  (hb : W'.heap[A.hb]? = some (.cells (qg n nxA nxL nxC (some iB') (h.items.length + 1) iC' A.nm A.cm) 96 (0, 0)))
  (hrow : W'.ownsRow base 101 1 (.slice (some iB') (h.items.length + 1 : Nat) iC') (h.items.length + 1) ((A.its.map fun a => .pointer (some (aV a.b 0))) ++ [.pointer (some (aV a.b 0))]))
  (hnew : iB'.block ∈ (A.iB.map (·.block)).toList ∨ W.heap.size <= iB'.block)
  (hnam : dG Tryz.prog 9 W' A.nm (h.items.length + 1) (updF (mY (jU h.items A.its)) (sV it.post.label) (.pointer (some (aV a.b 0)))))
  (hit : cD base W' it a) (hnd : a.blks.Nodup) (hfr : ∀ b ∈ a.blks, W.heap.size <= b) (hne : iB'.block ∉ a.blks) (hlab : it.post.label ∉ h.items.map fun i => i.post.label) :
  fM base W' n nxA nxL nxC { h with items := h.items ++ [it] } { A with iB := some iB', iC := iC', its := A.its ++ [a] } := by
 have hnd0 := H.nodup
 unfold HsA.all at hnd0
 obtain ⟨n1, n2, n3⟩ := List.nodup_append.1 hnd0
 unfold HsA.own at n1
 obtain ⟨p1, p2, p3⟩ := List.nodup_append.1 n1
 have hlt := H.lt
 have hlo : ∀ b ∈ A.own, b < W.heap.size := fun b hb => (hlt b (aQ _ hb)).2
 have hcm : A.cm ∉ S := fun hs => by
  have := hS _ hs
  simp at p1
  rcases List.mem_append.1 this with e | e
  ·simp at e
   rcases e with e | e <;> grind
  ·exact p3 A.cm (by simp) A.cm e rfl
 have hab : A.ab ∉ S := fun hs => by
  have := hS _ hs
  simp at p1
  rcases List.mem_append.1 this with e | e
  ·simp at e
   rcases e with e | e <;> grind
  ·exact p3 A.ab (by simp) A.ab e rfl
 have heb : A.eb ∉ S := fun hs => by
  have := hS _ hs
  simp at p1
  rcases List.mem_append.1 this with e | e
  ·simp at e
   rcases e with e | e <;> grind
  ·exact p3 A.eb (by simp) A.eb e rfl
 have hold : ∀ (i : Nat) (x : ItA), A.its[i]? = some x -> ∀ b ∈ x.blks, b ∉ S := fun i x hx b hb hs => by
  have h1 := hS b hs
  have h2 : b ∈ A.own := by
   unfold HsA.own
   rcases List.mem_append.1 h1 with e | e
   ·exact aQ _ (by simp at e ⊢; rcases e with e | e <;> simp [e])
   ·exact aP _ e
  exact n3 b h2 b (List.mem_flatMap.2 ⟨x, aF hx, hb⟩) rfl
 obtain ⟨m, hm⟩ := H.can
 refine ⟨by simpa using hb, H.ge, by simp [H.len], by simpa using hrow, ?_, ⟨m, hm.kept (hc.block _ hm.lt hcm)⟩, ⟨H.act.1, (hc.block _ (aa H.act.2) hab).trans H.act.2⟩, ⟨H.act2.1, (hc.block _ (aa H.act2.2) heb).trans H.act2.2⟩, fun i x y hx hy => ?_, ?_⟩
 ·rw [pD, tZ H.len hlab] at hnam
  simpa using hnam
 ·simp only at hx hy
  have hlen := H.len
  rw [List.getElem?_append] at hx hy
  by_cases hi : i < h.items.length
  ·rw [if_pos hi] at hx
   rw [if_pos (by omega)] at hy
   exact (H.item i x y hx hy).chg hc (hold i y hy)
  ·rw [if_neg hi] at hx
   rw [if_neg (by omega)] at hy
   have e0 : i - h.items.length = 0 := by
    have := (aE.1 hx).1
    simp at this
    omega
   rw [e0] at hx
   rw [hlen, e0] at hy
   cases hx
   cases hy
   exact hit
 ·have hall : ∀ b ∈ A.its.flatMap ItA.blks, b < W.heap.size := fun b hb => (hlt b (aP _ hb)).2
  show (([A.hb, A.nm, A.cm, A.ab, A.eb] ++ [iB'.block]) ++ (A.its ++ [a]).flatMap ItA.blks).Nodup
  rw [List.flatMap_append, List.flatMap_singleton]
  have hbk : iB'.block ∉ [A.hb, A.nm, A.cm, A.ab, A.eb] /\ iB'.block ∉ A.its.flatMap ItA.blks := by
   rcases hnew with e | e
   ·refine ⟨fun h => p3 _ h _ e rfl, fun h => n3 _ (aP _ e) _ h rfl⟩
   ·refine ⟨fun h => ?_, fun h => ?_⟩
    ·have := hlo _ (show iB'.block ∈ A.own from aQ _ h)
     omega
    ·have := hall _ h
     omega
  refine List.nodup_append.2 ⟨List.nodup_append.2 ⟨p1, by simp, fun x hx y hy e => ?_⟩, List.nodup_append.2 ⟨n2, hnd, fun x hx y hy e => ?_⟩, fun x hx y hy e => ?_⟩
  ·simp at hy
   subst hy e
   exact hbk.1 hx
  ·subst e
   have h1 := hall x hx
   have h2 := hfr x hy
   omega
  ·subst e
   rcases List.mem_append.1 hx with hx | hx
   ·have hx' : x ∈ A.own := aQ _ hx
    rcases List.mem_append.1 hy with hy | hy
    ·exact n3 x hx' x hy rfl
    ·have h1 := hlo x hx'
     have h2 := hfr x hy
     omega
   ·simp at hx
    subst hx
    rcases List.mem_append.1 hy with hy | hy
    ·exact hbk.2 hy
    ·exact hne hy
def au (w : World) : List Obj -> World
 | [] => w
 | o :: os => au (w.alloc o) os
theorem bv : ∀ (os : List Obj) (w : World), Below w.heap.size w (au w os)
 | [], _ => aJ _ _
 | o :: os, w => bt (ba w o) (bv os (w.alloc o))
theorem bN : ∀ (os : List Obj) (w : World) (i : Nat) (o : Obj), os[i]? = some o -> (au w os).heap[w.heap.size + i]? = some o
 | [], _, _, _, h => by simp at h
 | o :: os, w, 0, x, h => by
  cases Option.some.inj h
  exact ((bv os (w.alloc o)).block _ (by simp)).trans (aC w o)
 | o :: os, w, i + 1, x, h => by
  have := bN os (w.alloc o) i x (by simpa using h)
  rw [aT] at this
  rwa [show w.heap.size + (i + 1) = w.heap.size + 1 + i by omega]
theorem eH : ∀ (os : List Obj) (w : World), (au w os).heap.size = w.heap.size + os.length
 | [], _ => rfl
 | o :: os, w => by
  show (au (w.alloc o) os).heap.size = _
  rw [eH os, aT]
  simp
  omega
theorem cv {w : World} {b : Nat} {cs : Array Value} {t : TypeId} {fr : Nat × Nat} (h : w.heap[b]? = some (.cells cs t fr)) : Rd w (some (aV b 0)) cs.toList :=
 .inr ⟨b, 0, rfl, aa h, fun i u hu => by rw [Nat.zero_add, aA _ h]; simpa using hu⟩
theorem bu {n : Int} (h1 : -1000000 <= n) (h2 : n <= 1000000) : I64 n := ⟨by omega, by omega⟩
theorem kO {W : World} {base g : Nat} {e : TypeId} {cur : Array Value} {n size : Nat} {xs : List Value} (h : W.heap[g]? = some (.cells cur e (0, 0))) (hb : base <= g) (hn : cur.size = n * size) (hm : n <= maxLen) (hx : cur.toList = xs) : W.ownsRow base e size (.slice (some (aV g 0)) n n) n xs := by
 subst hx
 exact ⟨by simpa using hn, .inr ⟨g, n, cur, rfl, hb, h, aH _, hm, hn, by rw [List.take_of_length_le]; simp [hn]⟩⟩
theorem bz.set {S : List Nat} {A B : World} (h : bz S A B) {b : Nat} (i : Nat) (v : Value) (hb : b ∈ S ∨ A.heap.size <= b) : bz S A (B.setCell (aV b i) v) :=
 h.trans (dW (W := B) i v [b] (by simp)) (fun c hc => by rw [aR.1 hc]; exact hb)
theorem bz.grown {S : List Nat} {A B C : World} {r : Option Nat} (h : bz S A B) (k : B.grownBy C r) (hr : ∀ x, r = some x -> x ∈ S ∨ A.heap.size <= x) : bz S A C :=
 h.trans (bz.of_grown (S := r.toList) k (fun x hx => by simp [hx])) (fun c hc => hr c (by simpa using hc))
theorem dJ (A : Option Addr) (n c : Nat) : Value.ownBlock (.slice A n c) = A.map (·.block) := by cases A <;> rfl
theorem fM.apart {base : Nat} {W : World} {n : Net} {nxA : Option Addr} {nxL nxC : Nat} {h : Hst} {A : HsA} (H : fM base W n nxA nxL nxC h A) : A.hb ≠ A.nm /\ A.hb ≠ A.cm /\ A.nm ≠ A.cm /\ ∀ b, A.iB.map (·.block) = some b -> b ≠ A.hb /\ b ≠ A.nm /\ b ≠ A.cm := by
 obtain ⟨n1, -, -⟩ := List.nodup_append.1 H.nodup
 have n1' : ([A.hb, A.nm, A.cm, A.ab, A.eb] ++ (A.iB.map (·.block)).toList).Nodup := n1
 obtain ⟨p1, -, p3⟩ := List.nodup_append.1 n1'
 simp at p1
 refine ⟨by grind, by grind, by grind, fun b hb => ?_⟩
 have hm : b ∈ (A.iB.map (·.block)).toList := by rw [hb]; simp
 exact ⟨fun e => p3 A.hb (by simp) b hm e.symm, fun e => p3 A.nm (by simp) b hm e.symm, fun e => p3 A.cm (by simp) b hm e.symm⟩
theorem em.mapI {n : Net} {nx : List NsC} {bef bef' : List Ded} {t : Int} {h : Hst} (H : em n nx bef t h) (f : Itm -> Itm) (canc : List Int) (hb : (bef'.filter fun d => d.kind == 1).map (·.post) = (bef.filter fun d => d.kind == 1).map (·.post))
  (hf : ∀ it ∈ h.items, (f it).post = it.post /\ fL n (f it) /\ dF n nx canc (bw h.items (f it)) (f it) /\ (∀ l ∈ (f it).labs, ∃ j ∈ h.items, j.post.label = l) /\ ItT t (f it)) : em n nx bef' t ⟨h.items.map f, canc⟩ := by
 have hps : (h.items.map f).map (·.post) = h.items.map (·.post) := by
  rw [List.map_map]
  exact List.map_congr_left (fun it hi => (hf it hi).1)
 have hto : ∀ x, bQ (h.items.map f) x = bQ h.items x := ew hps
 refine ⟨hps.trans (H.posts.trans hb.symm), ?_, fun x hx => ?_, fun x hx => ?_, fun x hx => ?_, fun x hx l hl => ?_, fun x hx => ?_⟩
 ·have e : ((h.items.map f).map fun i => i.post.label) = (((h.items.map f).map (·.post)).map (·.label)) := by simp
  show ((h.items.map f).map fun i => i.post.label).Nodup
  rw [e, hps]
  simpa [Function.comp_def] using H.nodup
 all_goals obtain ⟨it, hi, rfl⟩ := List.mem_map.1 hx
 all_goals obtain ⟨a1, a2, a3, a4, a5⟩ := hf it hi
 ·rw [a1]
  exact H.pst it hi
 ·exact a2
 ·show dF n nx canc (bw (h.items.map f) (f it)) (f it)
  unfold bw
  rw [hto]
  exact a3
 ·obtain ⟨j, hj, e⟩ := a4 l hl
  exact ⟨f j, List.mem_map.2 ⟨j, hj, rfl⟩, by rw [(hf j hj).1]; exact e⟩
 ·exact a5
theorem fL.upd {n : Net} {it it' : Itm} (h : fL n it) (h1 : it'.stops = it.stops) (h2 : it'.seals = it.seals) (h3 : it'.post = it.post) (h4 : it'.since.length = it'.labs.length /\ it'.labs ≠ []) (h5 : ∀ t ∈ it'.since, 0 <= t /\ t <= 1000000) : fL n it' :=
 ⟨by rw [h1, h2]; exact h.path, by rw [h1, h3]; exact h.head, by rw [h1]; exact h.len, by rw [h1]; exact h.offs, h4, h5⟩
theorem wm {n : Net} {nx : List NsC} {canc : List Int} {dst : Int} {it : Itm} (h : dF n nx canc dst it) : dF n nx canc dst (dO n it) := by
 by_cases hl : it.line < 0
 ·unfold dO
  rw [if_pos hl]
  have hm : fv n nx canc dst it = (-1, 0) := by
   rcases dP n nx canc dst it with e | ⟨l, v, e, g⟩
   ·exact e
   ·have := h.1
    rw [e] at this
    have h2 := g.ge
    have h3 : it.line = l := this
    omega
  have hm2 : fv n nx canc dst { it with holds := it.holds + 1 } = (-1, 0) := by
   rcases dP n nx canc dst { it with holds := it.holds + 1 } with e | ⟨l, v, e, g⟩
   ·exact e
   ·exfalso
    have h4 := g.at_
    have h5 : bR n l (it.holds + 1) (eP n it) = some v := h4
    rw [iZ] at h5
    cases hx : bR n l it.holds (eP n it) with
    | none =>
     rw [hx] at h5
     cases h5
    | some u =>
     have g2 : jk n nx canc dst it l u := ⟨g.lost, g.away, g.nx_, g.nc, g.ge, hx⟩
     rw [iE g2] at hm
     have := g.ge
     have := congrArg Prod.fst hm
     simp at this
     omega
  have h1 := h.1
  have h2 := h.2
  rw [hm] at h1 h2
  exact ⟨by rw [hm2]; exact h1, by rw [hm2]; exact h2⟩
 ·have g := h.goes (by omega)
  unfold dO
  rw [if_neg hl]
  have hs := iZ n it.line it.holds (eP n it)
  rw [g.at_] at hs
  dsimp only at hs
  by_cases hd : (eh n it.line (it.leave + 1)).2 = 0
  ·rw [if_pos hd] at hs ⊢
   have g2 : jk n nx canc dst { it with holds := it.holds + 1, leave := (eh n it.line (it.leave + 1)).1 } it.line (eh n it.line (it.leave + 1)).1 := ⟨g.lost, g.away, g.nx_, g.nc, g.ge, hs⟩
   exact ⟨by rw [iE g2], by rw [iE g2]⟩
  ·rw [if_neg hd] at hs ⊢
   have hm2 : fv n nx canc dst { it with holds := it.holds + 1, line := -1, leave := 0 } = (-1, 0) := by
    rcases dP n nx canc dst { it with holds := it.holds + 1, line := -1, leave := 0 } with e | ⟨l, v, e, g2⟩
    ·exact e
    ·exfalso
     have e1 : aX nx (aj it.stops).office.toNat dst.toNat = l := g2.nx_
     rw [g.nx_] at e1
     have h4 : bR n l (it.holds + 1) (eP n it) = some v := g2.at_
     rw [<- e1, hs] at h4
     cases h4
   exact ⟨by rw [hm2], by rw [hm2]⟩
theorem rQ {n : Net} {nx : List NsC} {canc : List Int} {dst x : Int} {it : Itm} (h : dF n nx canc dst it) (hx : 0 <= x) : dF n nx (x :: canc) dst (if it.line = x then { it with line := -1, leave := 0 } else it) := by
 by_cases e : it.line = x
 ·rw [if_pos e]
  have g := h.goes (by omega)
  have hm2 : fv n nx (x :: canc) dst { it with line := -1, leave := 0 } = (-1, 0) := by
   rcases dP n nx (x :: canc) dst { it with line := -1, leave := 0 } with e2 | ⟨l, v, e2, g2⟩
   ·exact e2
   ·exfalso
    have e1 : aX nx (aj it.stops).office.toNat dst.toNat = l := g2.nx_
    rw [g.nx_] at e1
    exact g2.nc (by rw [<- e1, e]; exact List.mem_cons_self ..)
  exact ⟨by rw [hm2], by rw [hm2]⟩
 ·rw [if_neg e]
  by_cases hl : 0 <= it.line
  ·have g := h.goes hl
   have g2 : jk n nx (x :: canc) dst it it.line it.leave := ⟨g.lost, g.away, g.nx_, fun hm => by
    rcases List.mem_cons.1 hm with hm | hm
    ·exact e hm
    ·exact g.nc hm, g.ge, g.at_⟩
   exact ⟨by rw [iE g2], by rw [iE g2]⟩
  ·have hm : fv n nx canc dst it = (-1, 0) := by
    rcases dP n nx canc dst it with e | ⟨l, v, e, g⟩
    ·exact e
    ·have := h.1
     rw [e] at this
     have h2 := g.ge
     have h3 : it.line = l := this
     omega
   have hm2 : fv n nx (x :: canc) dst it = (-1, 0) := by
    rcases dP n nx (x :: canc) dst it with e2 | ⟨l, v, e2, g⟩
    ·exact e2
    ·exfalso
     have g2 : jk n nx canc dst it l v := ⟨g.lost, g.away, g.nx_, fun hm => g.nc (List.mem_cons_of_mem _ hm), g.ge, g.at_⟩
     rw [iE g2] at hm
     have := g.ge
     have := congrArg Prod.fst hm
     simp at this
     omega
   have h1 := h.1
   have h2 := h.2
   rw [hm] at h1 h2
   exact ⟨by rw [hm2]; exact h1, by rw [hm2]; exact h2⟩
theorem em.labels {n : Net} {nx : List NsC} {bef : List Ded} {t : Int} {h : Hst} (H : em n nx bef t h) : (h.items.map fun i => i.post.label) = bD bef := by
 have e : (h.items.map fun i => i.post.label) = (h.items.map (·.post)).map (·.label) := by simp
 rw [e, H.posts]
 unfold bD
 simp
theorem em.find {n : Net} {nx : List NsC} {bef : List Ded} {t : Int} {h : Hst} (H : em n nx bef t h) {l : List UInt8} (hl : l ∈ bD bef) : ∃ a ∈ h.items, a.post.label = l /\ jH h.items l = some a := by
 rw [<- H.labels] at hl
 obtain ⟨a, ha, e⟩ := List.mem_map.1 hl
 unfold jH
 cases hf : h.items.find? fun j => j.post.label == l with
 | none =>
  have := List.find?_eq_none.1 hf a ha
  simp [e] at this
 | some x =>
  have h1 := List.find?_some hf
  simp at h1
  exact ⟨x, List.mem_of_find?_eq_some hf, h1, rfl⟩
theorem tW {all : List Itm} (h : (all.map fun i => i.post.label).Nodup) {a b : Itm} (ha : a ∈ all) (hb : b ∈ all) (e : a.post.label = b.post.label) : a = b := by
 obtain ⟨i, hi⟩ := List.getElem?_of_mem ha
 obtain ⟨j, hj⟩ := List.getElem?_of_mem hb
 have hi2 : (all.map fun i => i.post.label)[i]? = some a.post.label := by rw [aS, hi]; rfl
 have hj2 : (all.map fun i => i.post.label)[j]? = some b.post.label := by rw [aS, hj]; rfl
 have : i = j := by
  have hil := (aE.1 hi2).1
  exact (List.getElem?_inj hil h).1 (by rw [hi2, hj2, e])
 subst this
 rw [hi] at hj
 exact Option.some.inj hj
theorem ur {l : List Int} {x : Int} (h : l ≠ []) : (l ++ [x]).head? = l.head? := by
 cases l with
 | nil => exact absurd rfl h
 | cons a l => rfl
theorem vq {n : Net} {it : Itm} {l : List UInt8} {t : Int} (h : fL n it) (h0 : 0 <= t) (h1 : t <= 1000000) : fL n (bh it l t) :=
 h.upd rfl rfl rfl ⟨by unfold bh; simp [h.labs.1], by unfold bh; simp⟩ (fun x hx => by
  rcases List.mem_append.1 hx with hx | hx
  ·exact h.sin x hx
  ·rw [aR.1 hx]
   exact ⟨h0, h1⟩)
theorem rl {it : Itm} {l : List UInt8} {t : Int} (h : ItT t it) : ItT t (bh it l t) :=
 ⟨h.dep, List.pairwise_append.2 ⟨h.up, List.pairwise_singleton .., fun a ha b hb => by rw [aR.1 hb]; exact h.sin a ha⟩, fun s hs => by
  rcases List.mem_append.1 hs with hs | hs
  ·exact h.sin s hs
  ·rw [aR.1 hs]; exact Int.le_refl _, by
  have hne : it.since ≠ [] := fun e => by have := h.head; rw [e] at this; cases this
  show (it.since ++ [t]).head? = _
  rw [ur hne]
  exact h.head⟩
theorem sY {all : List Itm} {i : Itm} {l : List UInt8} (h : ∃ j ∈ all, j.post.label = l) : bQ (all ++ [i]) l = bQ all l := by
 obtain ⟨j, hj, e⟩ := h
 unfold bQ
 rw [List.find?_append]
 cases hf : all.find? fun j => j.post.label == l with
 | none =>
  have := List.find?_eq_none.1 hf j hj
  simp [e] at this
 | some x => rfl
theorem nk {all : List Itm} {i : Itm} (h : i.post.label ∉ all.map fun j => j.post.label) : bQ (all ++ [i]) i.post.label = i.post.dst := by
 unfold bQ
 rw [List.find?_append]
 have : (all.find? fun j => j.post.label == i.post.label) = none := List.find?_eq_none.2 (fun x hx e => h (List.mem_map.2 ⟨x, hx, by simpa using e⟩))
 rw [this]
 simp
theorem em.act {n : Net} {nx : List NsC} {bef : List Ded} {d : Ded} {h : Hst} (H : em n nx bef d.time h) (hd : iK n bef d) (h0 : 0 <= d.time) (h1 : d.time <= 1000000) : em n nx (bef ++ [d]) d.time (dR n nx h d) := by
 have hfil : d.kind ≠ 1 -> ((bef ++ [d]).filter fun d => d.kind == 1).map (·.post) = (bef.filter fun d => d.kind == 1).map (·.post) := fun hk => by
  rw [List.filter_append]
  simp [hk]
 rcases hd with ⟨hk, hl, hnew, hfr, hto, hcl, hacc⟩ | ⟨hk, hl⟩ | ⟨hk, hl, ho, hne⟩ | ⟨hk, hl1, hl2⟩
 ·unfold dR
  rw [if_pos hk]
  have hnl : d.post.label ∉ h.items.map fun i => i.post.label := by rw [H.labels]; exact hnew
  have hnI : fL n (aY n nx h.canc d.post.dst (gT d.post)) := ⟨⟨rfl, rfl⟩, ⟨_, [], rfl, rfl, rfl⟩, by show 1 <= 20; omega, fun s hs => by
   have hs' : s ∈ [(⟨d.post.frm, d.post.acc, -1, -1⟩ : St)] := hs
   rw [aR.1 hs']
   exact ⟨hfr.1, hfr.2, by show 0 <= d.post.acc; omega, by show d.post.acc <= _; omega⟩, ⟨rfl, by show [d.post.label] ≠ []; simp⟩, fun t ht => by
   have ht' : t ∈ [d.post.acc] := ht
   rw [aR.1 ht', hacc]
   exact ⟨h0, h1⟩⟩
  refine ⟨?_, ?_, fun x hx => ?_, fun x hx => ?_, fun x hx => ?_, fun x hx l hl => ?_, fun x hx => ?_⟩
  ·show List.map (fun i : Itm => i.post) (h.items ++ [_]) = _
   rw [List.filter_append, List.map_append, List.map_append, H.posts]
   simp [hk, aY, gT]
  ·show (List.map (fun i : Itm => i.post.label) (h.items ++ [_])).Nodup
   rw [List.map_append]
   refine List.nodup_append.2 ⟨H.nodup, by simp, fun a ha b hb e => ?_⟩
   have hb' : b ∈ [d.post.label] := hb
   rw [aR.1 hb'] at e
   exact hnl (e ▸ ha)
  all_goals rcases List.mem_append.1 hx with hx | hx
  all_goals try rw [aR.1 hx]
  ·exact H.pst x hx
  ·exact ⟨hl, hfr, hto, hcl, by show 0 <= d.post.acc; omega, by show d.post.acc <= _; omega⟩
  ·exact H.item x hx
  ·exact hnI
  ·have e : bw (h.items ++ [aY n nx h.canc d.post.dst (gT d.post)]) x = bw h.items x := sY (H.labs x hx _ (kH (H.item x hx).labs.2))
   show dF n nx h.canc (bw (h.items ++ [aY n nx h.canc d.post.dst (gT d.post)]) x) x
   rw [e]
   exact H.dec x hx
  ·have e : bw (h.items ++ [aY n nx h.canc d.post.dst (gT d.post)]) (aY n nx h.canc d.post.dst (gT d.post)) = d.post.dst := nk (i := aY n nx h.canc d.post.dst (gT d.post)) hnl
   show dF n nx h.canc (bw (h.items ++ [aY n nx h.canc d.post.dst (gT d.post)]) _) _
   rw [e]
   exact fu _ _ _ _ _
  ·obtain ⟨j, hj, e⟩ := H.labs x hx l hl
   exact ⟨j, aQ _ hj, e⟩
  ·rw [aR.1 hx] at hl
   have hl' : l ∈ [d.post.label] := hl
   exact ⟨_, aP _ (aR.2 rfl), (aR.1 hl').symm⟩
  ·exact H.time x hx
  ·exact ⟨fun s hs => (by cases hs), List.pairwise_singleton .., fun s hs => by
    have hs' : s ∈ [d.post.acc] := hs
    rw [aR.1 hs', hacc]
    exact Int.le_refl _, rfl⟩
 ·unfold dR
  rcases hk with hk | hk
  ·rw [if_neg (by omega), if_pos hk]
   refine H.mapI _ h.canc (hfil (by omega)) (fun it hi => ?_)
   split
   ·exact ⟨rfl, (H.item it hi).upd rfl rfl rfl (H.item it hi).labs (H.item it hi).sin, fu _ _ _ _ _, H.labs it hi, ⟨(H.time it hi).dep, (H.time it hi).up, (H.time it hi).sin, (H.time it hi).head⟩⟩
   ·exact ⟨rfl, H.item it hi, H.dec it hi, H.labs it hi, H.time it hi⟩
  ·rw [if_neg (by omega), if_neg (by omega), if_pos hk]
   refine H.mapI _ h.canc (hfil (by omega)) (fun it hi => ?_)
   split
   ·have e : (dO n it).post = it.post /\ (dO n it).stops = it.stops /\ (dO n it).seals = it.seals /\ (dO n it).since = it.since /\ (dO n it).labs = it.labs := by
     unfold dO
     split
     ·exact ⟨rfl, rfl, rfl, rfl, rfl⟩
     ·split <;> exact ⟨rfl, rfl, rfl, rfl, rfl⟩
    obtain ⟨e1, e2, e3, e4, e5⟩ := e
    refine ⟨e1, (H.item it hi).upd e2 e3 e1 (by rw [e4, e5]; exact (H.item it hi).labs) (by rw [e4]; exact (H.item it hi).sin), ?_, by rw [e5]; exact H.labs it hi, ⟨by rw [e2]; exact (H.time it hi).dep, by rw [e4]; exact (H.time it hi).up, by rw [e4]; exact (H.time it hi).sin, by rw [e4, e1]; exact (H.time it hi).head⟩⟩
    have : bw h.items (dO n it) = bw h.items it := by unfold bw bq; rw [e5]
    rw [this]
    exact wm (H.dec it hi)
   ·exact ⟨rfl, H.item it hi, H.dec it hi, H.labs it hi, H.time it hi⟩
 ·unfold dR
  rw [if_neg (by omega), if_neg (by omega), if_neg (by omega), if_pos hk]
  obtain ⟨a, ha, ea, fa⟩ := H.find hl
  obtain ⟨b, hb, eb, fb⟩ := H.find ho
  rw [fa, fb]
  dsimp only
  have hca := H.labs a ha _ (kH (H.item a ha).labs.2)
  have hcb := H.labs b hb _ (kH (H.item b hb).labs.2)
  split
  ·refine H.mapI _ h.canc (hfil (by omega)) (fun it hi => ?_)
   have key : ∀ l, (∃ j ∈ h.items, j.post.label = l) -> (aY n nx h.canc (bQ h.items l) (bh it l d.time)).post = it.post /\ fL n (aY n nx h.canc (bQ h.items l) (bh it l d.time)) /\ dF n nx h.canc (bw h.items (aY n nx h.canc (bQ h.items l) (bh it l d.time))) (aY n nx h.canc (bQ h.items l) (bh it l d.time)) /\ (∀ x ∈ (aY n nx h.canc (bQ h.items l) (bh it l d.time)).labs, ∃ j ∈ h.items, j.post.label = x) /\ ItT d.time (aY n nx h.canc (bQ h.items l) (bh it l d.time)) := fun l hl => by
    have hr := vq (l := l) (H.item it hi) h0 h1
    have ht := rl (l := l) (H.time it hi)
    refine ⟨rfl, hr.upd rfl rfl rfl hr.labs hr.sin, ?_, fun x hx => ?_, ⟨ht.dep, ht.up, ht.sin, ht.head⟩⟩
    ·have e : bw h.items (aY n nx h.canc (bQ h.items l) (bh it l d.time)) = bQ h.items l := by
      unfold bw
      congr 1
      unfold bq aY bh
      simp
     rw [e]
     exact fu _ _ _ _ _
    ·rcases List.mem_append.1 hx with hx | hx
     ·exact H.labs it hi x hx
     ·rw [aR.1 hx]
      exact hl
   unfold u7
   split
   ·exact key _ hcb
   ·split
    ·exact key _ hca
    ·exact ⟨rfl, H.item it hi, H.dec it hi, H.labs it hi, H.time it hi⟩
  ·exact ⟨H.posts.trans (hfil (by omega)).symm, H.nodup, H.pst, H.item, H.dec, H.labs, H.time⟩
 ·unfold dR
  rw [if_neg (by omega), if_neg (by omega), if_neg (by omega), if_neg (by omega)]
  refine H.mapI _ (d.line :: h.canc) (hfil (by omega)) (fun it hi => ?_)
  have hc := rQ (x := d.line) (H.dec it hi) hl1
  split
  ·rename_i e
   rw [if_pos e] at hc
   exact ⟨rfl, (H.item it hi).upd rfl rfl rfl (H.item it hi).labs (H.item it hi).sin, hc, H.labs it hi, ⟨(H.time it hi).dep, (H.time it hi).up, (H.time it hi).sin, (H.time it hi).head⟩⟩
  ·rename_i e
   rw [if_neg e] at hc
   exact ⟨rfl, H.item it hi, hc, H.labs it hi, H.time it hi⟩
theorem sn {n : Net} {nx : List NsC} (hG : cY n) (hF : bi n nx) {Q : List Ded -> Int -> Hst -> Prop}
  (hproc : ∀ bef t u h l, Q bef t h -> em n nx bef t h -> t <= u -> cK n nx h.canc u h.items h.items = some l -> Q bef u ⟨l, h.canc⟩)
  (hact : ∀ bef d h, Q bef d.time h -> em n nx bef d.time h -> iK n bef d -> 0 <= d.time -> d.time <= 1000000 -> Q (bef ++ [d]) d.time (dR n nx h d)) :
  ∀ {ds bef : List Ded} {t : Int} {h h' : Hst}, re n nx ds h = some h' -> bK n bef t ds -> 0 <= t -> t <= 1000000 -> em n nx bef t h -> Q bef t h -> em n nx (bef ++ ds) kI h' /\ Q (bef ++ ds) kI h' /\ ∀ it ∈ h'.items, it.line < 0
 | [], bef, t, h, h', hr, _, _, ht, H, hq => by
  unfold re at hr
  obtain ⟨l, hl, rfl⟩ := Option.map_eq_some_iff.1 hr
  have hb : t <= kI := by unfold kI; omega
  obtain ⟨a, b⟩ := H.proc hG hF hb hl
  rw [List.append_nil]
  refine ⟨a, hproc _ _ _ _ _ hq H hb hl, fun it hi => ?_⟩
  have h1 := b it hi
  have h2 := a.dst hi
  by_cases h3 : 0 <= it.line
  ·exfalso
   have := (mJ hG hF (a.item it hi) h2 (a.dec it hi) h3).2.2.2.2.1
   exact h1 ⟨h3, by unfold kI; omega⟩
  ·omega
 | d :: ds, bef, t, h, h', hr, hd, h0, ht, H, hq => by
  unfold re at hr
  obtain ⟨d1, d2, d3, d4⟩ := hd
  split at hr
  ·cases hr
  ·rename_i l hl
   obtain ⟨a, b⟩ := H.proc hG hF d1 hl
   have hq2 := hproc _ _ _ _ _ hq H d1 hl
   have ha := a.act d3 (by omega) d2
   have hq3 := hact _ _ _ hq2 a d3 (by omega) d2
   have := sn hG hF hproc hact hr d4 (by omega) d2 ha hq3
   rwa [List.append_assoc] at this
theorem wh (n : Net) (nx : List NsC) : em n nx [] 0 ⟨[], []⟩ := ⟨rfl, List.Pairwise.nil, fun _ h => (by cases h), fun _ h => (by cases h), fun _ h => (by cases h), fun _ h => (by cases h), fun _ h => (by cases h)⟩
theorem gG {n : Net} {nx : List NsC} (hG : cY n) (hF : bi n nx) {ds : List Ded} {h : Hst} (hr : cX n nx ds = some h) (hd : bK n [] 0 ds) : em n nx ds kI h /\ ∀ it ∈ h.items, it.line < 0 := by
 have := sn (Q := fun _ _ _ => True) hG hF (fun _ _ _ _ _ _ _ _ _ => trivial) (fun _ _ _ _ _ _ _ _ => trivial) hr hd (by omega) (by omega) (wh n nx) trivial
 exact ⟨this.1, this.2.2⟩
inductive kJ (n : Net) (nx : List NsC) (canc : List Int) (dst before : Int) : Itm -> Itm -> Prop
 | stay {it : Itm} (h : ¬ (0 <= it.line /\ it.leave < before)) : kJ n nx canc dst before it it
 | go {it it' : Itm} (h : 0 <= it.line /\ it.leave < before) (h2 : it.stops.length < 20) (hm : kJ n nx canc dst before (gy n nx canc dst it) it') : kJ n nx canc dst before it it'
theorem pV {n : Net} {nx : List NsC} {canc : List Int} {dst before : Int} : ∀ {f : Nat} {it it' : Itm}, eX n nx canc dst before f it = some it' -> kJ n nx canc dst before it it'
 | 0, _, _, h => by cases h
 | f + 1, it, it', h => by
  unfold eX at h
  split at h
  ·rename_i g
   split at h
   ·cases h
   ·exact .go g (by omega) (pV h)
  ·rename_i g
   cases h
   exact .stay g
def ei (n : Net) (nx : List NsC) : List Ded -> Hst -> Option Hst
 | [], h => some h
 | d :: ds, h => match cK n nx h.canc d.time h.items h.items with
  | none => none
  | some l => ei n nx ds (dR n nx { h with items := l } d)
theorem gQ (n : Net) (nx : List NsC) : ∀ (ds : List Ded) (h : Hst), re n nx ds h = (ei n nx ds h).bind fun g => (cK n nx g.canc kI g.items g.items).map fun l => { g with items := l }
 | [], h => rfl
 | d :: ds, h => by
  rw [re, ei]
  cases cK n nx h.canc d.time h.items h.items with
  | none => rfl
  | some l => exact gQ n nx ds _
theorem lc (n : Net) (nx : List NsC) : ∀ (ds bs : List Ded) (h : Hst), ei n nx (ds ++ bs) h = (ei n nx ds h).bind (ei n nx bs)
 | [], _, _ => rfl
 | d :: ds, bs, h => by
  rw [List.cons_append, ei, ei]
  cases cK n nx h.canc d.time h.items h.items with
  | none => rfl
  | some l => exact lc n nx ds bs _
theorem sX {all : List Itm} (hn : (all.map fun i => i.post.label).Nodup) {x : Itm} (hx : x ∈ all) : bQ all x.post.label = x.post.dst := by
 unfold bQ
 cases hf : all.find? fun j => j.post.label == x.post.label with
 | none =>
  have := List.find?_eq_none.1 hf x hx
  simp at this
 | some y =>
  have h1 := List.find?_some hf
  simp at h1
  have : y = x := tW hn (List.mem_of_find?_eq_some hf) hx h1
  rw [this]
  rfl
theorem uV {all : List Itm} (hn : (all.map fun i => i.post.label).Nodup) {x : Itm} (hx : x ∈ all) (hl : x.labs = [x.post.label]) : bw all x = x.post.dst := by
 unfold bw bq
 rw [hl]
 exact sX hn hx
theorem sW {x : Itm} (hl : x.labs = [x.post.label]) : bw [x] x = x.post.dst := uV (all := [x]) (by simp) (aR.2 rfl) hl
theorem vr {n : Net} {nx : List NsC} {canc : List Int} {u : Int} {x : Itm} {l : List Itm} (h : cK n nx canc u [x] [x] = some l) : ∃ y, l = [y] /\ kJ n nx canc (bw [x] x) u x y := by
 unfold cK at h
 split at h
 ·cases h
 ·rename_i y hy
  cases h
  exact ⟨y, rfl, pV hy⟩
theorem uM {n : Net} {nx : List NsC} {d : Ded} (hk : d.kind = 1) : ei n nx [d] ⟨[], []⟩ = some ⟨[aY n nx [] d.post.dst (gT d.post)], []⟩ := by
 show some (dR n nx ⟨[], []⟩ d) = _
 unfold dR
 rw [if_pos hk]
 rfl
theorem newI_to {n : Net} {nx : List NsC} {p : Pst} : bw [aY n nx [] p.dst (gT p)] (aY n nx [] p.dst (gT p)) = p.dst := sW (x := aY n nx [] p.dst (gT p)) rfl
theorem mi {n : Net} {nx : List NsC} {d : Ded} {h : Hst} (hk : d.kind = 1) (hr : cX n nx [d] = some h) : ∃ e, h.items = [e] /\ kJ n nx [] d.post.dst kI (aY n nx [] d.post.dst (gT d.post)) e := by
 unfold cX at hr
 rw [gQ, uM hk] at hr
 obtain ⟨l, hl, rfl⟩ := Option.map_eq_some_iff.1 hr
 obtain ⟨y, rfl, hm⟩ := vr hl
 rw [newI_to] at hm
 exact ⟨y, rfl, hm⟩
def me (t : Int) : List St -> Option (Int × Int)
 | [] => none
 | s :: l => if t < s.arrive then me t l else if s.depart = -1 ∨ t <= s.depart then some (s.office, -1) else some (-1, s.line)
def nr (l : List St) (t : Int) : Option (Int × Int) := me t l.reverse
end Go.Proofs.YtpeaiphdkgifaaaGreatDoor
