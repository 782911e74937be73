/-
  The walk over hold. A line is cancelled: the map of the cancelled lines. A history in memory gets a new item. Blocks laid one behind the other, and the rows in them. Deeds keep what holds of a history, in plain Lean. Laws of histories, in plain Lean: stops, labels, losses and cancellations. Laws of histories, in plain Lean: losses, cancellations, a further hold, items alone. Without exchanges an i
-/
import Derived.Test.YtpeaiphdkgifaaaGreatDoorWbb
import Derived.Test.YtpeaiphdkgifaaaGreatDoorWam
namespace Go.Proofs.YtpeaiphdkgifaaaGreatDoor
open Go.RowKit
set_option maxHeartbeats 20000000
set_option maxRecDepth 100000
theorem hold_any (w W : World) (n : Net) (nx : List NsC) (nxA : Option Addr) (nxC : Nat) (h : Hst) (A : HsA) (d : Ded) (hS : Sound n) (H : WdH w W n nx nxA nxC h A) (hD : ∀ it ∈ h.items, it.holds <= 100000 /\ -1 <= it.line /\ (0 <= it.line -> it.line < n.lins.length /\ 0 <= it.leave /\ it.leave <= 2100000)) (hn : (h.items.map fun i => i.post.label).Nodup) (hl : d.label.length <= 1000) (hi : ∃ i ∈ h.items, i.post.label = d.label) (hk : d.kind = 3) :
  Calls Tryz.prog 96 #[.pointer (some ⟨A.hb, 0, none⟩), dedV d] W fun e W' => e = .returned (.tuple #[]) /\ WdH w W' n nx nxA nxC (actR n nx h d) A := by
 have hb0 : Below W.heap.size W (W.alloc (dedO d)).drew := b_drew (ba W (dedO d))
 have hx0 : (W.alloc (dedO d)).drew.heap[W.heap.size]? = some (dedO d) := heap_alloc_new W (dedO d)
 have H0 := H.below hb0
 obtain ⟨k, it, a, h1, h2, h3, h4, hlk⟩ := H0.look hl hi
 obtain ⟨g1, g2, g3⟩ := hD it (List.mem_of_getElem? h1)
 have hit := H0.hs.item k it a h1 h2
 have hbl := H0.hs.blks h2
 obtain ⟨lv, hlv, hlv2, hrow⟩ := hit.cells
 have c8 : (W.alloc (dedO d)).drew.cell? ⟨A.hb, 8, none⟩ = some (.map (some A.nm)) := H0.hs.cell rfl
 have c7 : (W.alloc (dedO d)).drew.cell? ⟨W.heap.size, 7, none⟩ = some (sV d.label) := cell_of_row _ _ 7 _ _ _ hx0
 have c10 : (W.alloc (dedO d)).drew.cell? ⟨a.b, 10, none⟩ = some (iV it.holds) := cell_of_row _ _ 10 _ _ _ hrow
 have c11 : (W.alloc (dedO d)).drew.cell? ⟨a.b, 11, none⟩ = some (iV it.line) := cell_of_row _ _ 11 _ _ _ hrow
 have f10 : (W.alloc (dedO d)).drew.frozen? ⟨a.b, 10, none⟩ = false := frozen_row hrow 10
 have hlk0 := hlk _ (Below.refl _ _)
 have e1 : IntKind.i64.wrap ((it.holds : Int) + 1) = (it.holds : Int) + 1 := IntWalk.i64_in _ (by omega)
 have hrow1 : ((W.alloc (dedO d)).drew.setCell ⟨a.b, 10, none⟩ (iV ((it.holds : Int) + 1))).heap[a.b]? = some (.cells (itCells { it with holds := it.holds + 1 } a lv) 103 (0, 0)) := row_set hrow 10 (iV ((it.holds : Int) + 1))
 have hs1 : ItIn w.heap.size ((W.alloc (dedO d)).drew.setCell ⟨a.b, 10, none⟩ (iV ((it.holds : Int) + 1))) { it with holds := it.holds + 1 } a := hit.store hrow hbl.1 rfl rfl rfl rfl rfl ⟨hlv, hlv2⟩
 have hg1 : ChgS a.blks (W.alloc (dedO d)).drew ((W.alloc (dedO d)).drew.setCell ⟨a.b, 10, none⟩ (iV ((it.holds : Int) + 1))) := chg_set _ _ _ (by simp [ItA.blks])
 have H1 : WdH w ((W.alloc (dedO d)).drew.setCell ⟨a.b, 10, none⟩ (iV ((it.holds : Int) + 1))) n nx nxA nxC { h with items := h.items.set k { it with holds := it.holds + 1 } } A := by
  have := H0.upd (it' := { it with holds := it.holds + 1 }) h1 h2 ⟨hs1, hg1, fun b hb => .inl hb, hbl.1, rfl⟩ rfl
  rwa [set_same h2] at this
 have hg : (h.items.set k { it with holds := it.holds + 1 })[k]? = some { it with holds := it.holds + 1 } := by rw [List.getElem?_set, if_pos rfl, if_pos (List.getElem?_eq_some_iff.1 h1).1]
 have hact : actR n nx h d = { h with items := h.items.set k (holdI n it) } := by
  unfold actR
  rw [if_neg (by omega), if_neg (by omega), if_pos hk, map_set hn h1 h3]
 rw [hact]
 have HEND : Hid (∀ W' it' , it'.post = it.post -> ItStep w.heap.size ((W.alloc (dedO d)).drew.setCell ⟨a.b, 10, none⟩ (iV ((it.holds : Int) + 1))) W' a a it' -> holdI n it = it' -> WdH w W' n nx nxA nxC { h with items := h.items.set k (holdI n it) } A) := fun W' it' q1 q2 q3 => by
  have := H1.upd hg h2 q2 q1
  rw [set_same h2] at this
  rw [q3]
  simpa using this
 have HR1 := Lib.hid hrow1
 have HS1 := Lib.hid hs1
 have HH1 := Lib.hid H1
 have HBL := Lib.hid hbl
 have HG := Lib.hid (⟨g2, g3⟩ : -1 <= it.line /\ (0 <= it.line -> it.line < n.lins.length /\ 0 <= it.leave /\ it.leave <= 2100000))
 have HLV := Lib.hid (⟨hlv, hlv2⟩ : I64 lv /\ (0 <= it.line -> lv = it.leave))
 clear hs1 hg1 H1 hg H0 H hx0 hb0 hit hbl hrow hrow1 hlv hlv2 hlk h1 h2 h3 h4 hi hl hn hD hk hact g1 g2 g3
 go_enter Tryz.func96, Tryz.ntmps96
 go_upto_region 1 with fail
 go_region
 change Exit.then _ _ _ _ (W.alloc (dedO d)).drew
 generalize (W.alloc (dedO d)).drew = W1 at *
 by_cases hneg : it.line < 0
 case pos =>
  have hh : holdI n it = { it with holds := it.holds + 1 } := by unfold holdI; rw [if_pos hneg]
  have HHI := Lib.hid hh
  clear hh
  go_wp2_with fail
  exact bodyPost_ret (results_none rfl _ _ _) rfl ⟨rfl, HEND.out _ { it with holds := it.holds + 1 } rfl ⟨HS1.out, ChgS.refl _ _, fun b hb => .inl hb, HBL.out.1, rfl⟩ HHI.out⟩
 go_upto_region 4 with fail
 have hlv : lv = it.leave := HLV.out.2 (by omega)
 subst hlv
 change Code.wp _ _ _ _ (W1.setCell ⟨a.b, 10, none⟩ (iV ((it.holds : Int) + 1)))
 clear c8 c7 c10 c11 f10 hlk0 e1
 generalize (W1.setCell ⟨a.b, 10, none⟩ (iV ((it.holds : Int) + 1))) = W2 at *
 have HST : Hid (∀ W', Below W2.heap.size W2 W' -> W'.cell? ⟨A.hb, 0, none⟩ = some (.slice n.calA n.cals.length n.calC) /\ W'.cell? ⟨A.hb, 1, none⟩ = some (.slice n.namA n.names.length n.namC) /\ W'.cell? ⟨A.hb, 2, none⟩ = some (.slice n.opA n.ops.length n.opC) /\ W'.cell? ⟨A.hb, 3, none⟩ = some (.slice n.offA n.offs.length n.offC) /\ W'.cell? ⟨A.hb, 4, none⟩ = some (.slice n.linA n.lins.length n.linC) /\ W'.cell? ⟨A.hb, 5, none⟩ = some (.slice n.clsA n.clss.length n.clsC) /\ W'.cell? ⟨a.b, 11, none⟩ = some (iV it.line) /\ W'.cell? ⟨a.b, 12, none⟩ = some (iV it.leave)) := fun W' hb =>
  ⟨cell_keepD hb (HH1.out.hs.cell rfl), cell_keepD hb (HH1.out.hs.cell rfl), cell_keepD hb (HH1.out.hs.cell rfl), cell_keepD hb (HH1.out.hs.cell rfl), cell_keepD hb (HH1.out.hs.cell rfl), cell_keepD hb (HH1.out.hs.cell rfl), cell_keepD hb (cell_of_row _ _ 11 _ _ _ HR1.out), cell_keepD hb (cell_of_row _ _ 12 _ _ _ HR1.out)⟩
 obtain ⟨k1, k2, k3⟩ := HG.out.2 (by omega)
 have e2 : IntKind.i64.wrap (it.leave + 1) = it.leave + 1 := IntWalk.i64_in _ (by omega)
 have HN0 : Hid (0 <= it.line) := Lib.hid (by omega)
 have HN1 := Lib.hid k1
 have HNE := Lib.hid hneg
 clear k1 k2 k3 hneg
 obtain ⟨v, er, hve⟩ : ∃ v er, depT n it.line (it.leave + 1) = (v, er) := ⟨_, _, rfl⟩
 have HVE := Lib.hid hve
 clear hve
 have HCA : Hid (∀ W', Below W2.heap.size W2 W' -> Calls Tryz.prog 15 #[netV n, iV it.line, iV (it.leave + 1)] W' fun e w' => e = .returned (.tuple #[iV v, iV er]) /\ Below W'.heap.size W' w') := fun W' hb => by
  have := tdep_any n it.line (it.leave + 1) W' (HH1.out.below hb).net (HH1.out.below hb).kw hS HN0.out HN1.out
  rwa [HVE.out] at this
 go_region_held3 (fun w' => w'.cell? ⟨A.hb, 0, none⟩ = some (.slice n.calA n.cals.length n.calC) /\ w'.cell? ⟨A.hb, 1, none⟩ = some (.slice n.namA n.names.length n.namC) /\ w'.cell? ⟨A.hb, 2, none⟩ = some (.slice n.opA n.ops.length n.opC) /\ w'.cell? ⟨A.hb, 3, none⟩ = some (.slice n.offA n.offs.length n.offC) /\ w'.cell? ⟨A.hb, 4, none⟩ = some (.slice n.linA n.lins.length n.linC) /\ w'.cell? ⟨A.hb, 5, none⟩ = some (.slice n.clsA n.clss.length n.clsC) /\ w'.cell? ⟨a.b, 11, none⟩ = some (iV it.line) /\ w'.cell? ⟨a.b, 12, none⟩ = some (iV it.leave)) (first | (with_reducible exact HST.out _ (b_drew (Below.refl _ _))) | (with_reducible exact HST.out _ HB3.out)) (first
  | (go_at_call 15; refine (HCA.out _ (b_drew (Below.refl _ _))).mono ?_; rintro e w3 ⟨rfl, hb⟩; have HB3 := Lib.hid (bdr hb); clear hb)
  | fail)
 obtain ⟨-, -, -, -, -, -, m11, m12⟩ := HST.out _ HB3.out
 have hr3 := (HB3.out.block _ (block_lt HR1.out)).trans HR1.out
 have x11 : w3.frozen? ⟨a.b, 11, none⟩ = false := frozen_row hr3 11
 have x12 : w3.frozen? ⟨a.b, 12, none⟩ = false := frozen_row hr3 12
 have hs3 := HS1.out.below HB3.out
 have hc3 : ChgS a.blks W2 w3 := ChgS.of_below HB3.out
 have HT := Lib.hid (⟨hr3, hs3, hc3⟩ : w3.heap[a.b]? = _ /\ ItIn w.heap.size w3 _ a /\ ChgS a.blks W2 w3)
 clear hr3 hs3 hc3
 by_cases her : er = 0
 case neg =>
  have hh : holdI n it = { it with holds := it.holds + 1, line := -1, leave := 0 } := by unfold holdI; rw [if_neg (by have := HNE.out; omega), HVE.out, if_neg her]
  have HHI := Lib.hid hh
  clear hh
  go_wp2_with fail
  refine bodyPost_ret (results_none rfl _ _ _) rfl ⟨rfl, HEND.out _ { it with holds := it.holds + 1, line := -1, leave := 0 } rfl ⟨HT.out.2.1.store HT.out.1 HBL.out.1 (i := 11) (v := iV (-1)) rfl rfl rfl rfl rfl ⟨HLV.out.1, fun e => absurd (show (0 : Int) <= -1 from e) (by decide)⟩, HT.out.2.2.trans (chg_set _ _ _ (by simp [ItA.blks])) (fun _ hb => .inl hb), fun b hb => .inl hb, HBL.out.1, rfl⟩ HHI.out⟩
 subst her
 have hh : holdI n it = { it with holds := it.holds + 1, leave := v } := by unfold holdI; rw [if_neg (by have := HNE.out; omega), HVE.out, if_pos rfl]
 have HHI := Lib.hid hh
 have hv := depT_ok hS.1.good HN0.out HN1.out HVE.out
 have hv2 : I64 v := by unfold I64; omega
 have HV2 := Lib.hid hv2
 clear hh hv hv2
 go_wp2_with fail
 exact bodyPost_end (results_none rfl _ _ _) rfl ⟨rfl, HEND.out _ { it with holds := it.holds + 1, leave := v } rfl ⟨HT.out.2.1.store HT.out.1 HBL.out.1 (i := 12) (v := iV v) rfl rfl rfl rfl rfl ⟨HV2.out, fun _ => rfl⟩, HT.out.2.2.trans (chg_set _ _ _ (by simp [ItA.blks])) (fun _ hb => .inl hb), fun b hb => .inl hb, HBL.out.1, rfl⟩ HHI.out⟩
theorem cancF_cons (canc : List Int) (l : Int) : (fun x => if x = l then some (.bool true) else cancF canc x) = cancF (l :: canc) := by
 funext x
 unfold cancF
 by_cases e : x = l
 ·simp [e]
 ·simp [e]
theorem WdH.canc {w W W' : World} {n : Net} {nx : List NsC} {nxA : Option Addr} {nxC : Nat} {h : Hst} {A : HsA} {l : Int} {m : Nat} (H : WdH w W n nx nxA nxC h A) (hm : MapV Tryz.prog 3 W' A.cm m (updF (intF (cancF h.canc)) (iV l) (.bool true))) (hg : W.grownBy W' (some A.cm)) :
  WdH w W' n nx nxA nxC { h with canc := l :: h.canc } A := by
 have hc : ChgS [A.cm] W W' := ChgS.of_grown hg (fun x hx => by cases hx; simp)
 have hnd := H.hs.nodup
 have hcm : A.cm ∈ A.own := by simp [HsA.own]
 obtain ⟨n1, n2, n3⟩ := List.nodup_append.1 hnd
 have hne : A.hb ≠ A.cm /\ A.nm ≠ A.cm /\ A.ab ≠ A.cm /\ A.eb ≠ A.cm /\ ∀ b ∈ (A.iB.map (·.block)).toList, b ≠ A.cm := by
  have n1' : ([A.hb, A.nm, A.cm, A.ab, A.eb] ++ (A.iB.map (·.block)).toList).Nodup := n1
  obtain ⟨p1, -, p3⟩ := List.nodup_append.1 n1'
  simp at p1
  exact ⟨by grind, by grind, by grind, by grind, fun b hb e => p3 A.cm (by simp) b hb e.symm⟩
 refine ⟨H.old, ⟨(hc.block _ (block_lt H.hs.blk) (by simpa using hne.1)).trans H.hs.blk, H.hs.ge, H.hs.len, own_chg H.hs.row hc (fun b hb => ?_), H.hs.nam.kept (hc.block _ H.hs.nam.lt (by simpa using hne.2.1)), ⟨m, ?_⟩, ⟨H.hs.act.1, (hc.block _ (block_lt H.hs.act.2) (by simpa using hne.2.2.1)).trans H.hs.act.2⟩, ⟨H.hs.act2.1, (hc.block _ (block_lt H.hs.act2.2) (by simpa using hne.2.2.2.1)).trans H.hs.act2.2⟩, fun i it a h1 h2 => (H.hs.item i it a h1 h2).chg hc (fun b hb hb2 => ?_), hnd⟩, H.bel.trans (hc.below H.bel.size (fun b hb => ?_))⟩
 ·cases he : A.iB with
  | none => rw [he] at hb; cases hb
  | some x =>
   rw [he] at hb
   cases hb
   simpa using hne.2.2.2.2 x.block (by rw [he]; simp)
 ·rw [intF_upd, cancF_cons] at hm
  exact hm
 ·rw [List.mem_singleton.1 hb2] at hb
  exact (H.hs.blks h2).2.2 _ hcm hb
 ·rw [List.mem_singleton.1 hb]
  exact H.hs.ge.2.2
abbrev hsRow (n : Net) (nxA : Option Addr) (nxL nxC : Nat) (iA : Option Addr) (iL iC nm cm : Nat) : Array Value := #[.slice n.calA n.cals.length n.calC, .slice n.namA n.names.length n.namC, .slice n.opA n.ops.length n.opC, .slice n.offA n.offs.length n.offC, .slice n.linA n.lins.length n.linC, .slice n.clsA n.clss.length n.clsC, .slice nxA nxL nxC, .slice iA iL iC, .map (some nm), .map (some cm)]
theorem namF_snoc {items : List Itm} {its : List ItA} (hl : its.length = items.length) {it : Itm} {a : ItA} (hn : it.post.label ∉ items.map fun i => i.post.label) : (fun x => if x = it.post.label then some (.pointer (some ⟨a.b, 0, none⟩)) else namF items its x) = namF (items ++ [it]) (its ++ [a]) := by
 funext x
 unfold namF
 rw [List.zip_append hl.symm, List.find?_append]
 by_cases e : x = it.post.label
 ·subst e
  have hno : (items.zip its).find? (fun p => p.1.post.label == it.post.label) = none := by
   rw [List.find?_eq_none]
   intro p hp
   have hm : p.1 ∈ items := (List.of_mem_zip hp).1
   have hne : p.1.post.label ≠ it.post.label := fun e => hn (List.mem_map.2 ⟨p.1, hm, e⟩)
   simpa using hne
  rw [hno]
  simp
 ·rw [if_neg e]
  have hz : ([it].zip [a]).find? (fun p => p.1.post.label == x) = none := by
   have : ¬ it.post.label = x := fun h => e h.symm
   simp [this]
  rw [hz]
  simp
theorem HsIn.post {base : Nat} {W W' : World} {n : Net} {nxA : Option Addr} {nxL nxC : Nat} {h : Hst} {A : HsA} {it : Itm} {a : ItA} {iB' : Addr} {iC' : Nat} {S : List Nat}
  (H : HsIn base W n nxA nxL nxC h A) (hc : ChgS S W W') (hS : ∀ b ∈ S, b ∈ [A.hb, A.nm] ++ (A.iB.map (·.block)).toList)
  (hb : W'.heap[A.hb]? = some (.cells (hsRow n nxA nxL nxC (some iB') (h.items.length + 1) iC' A.nm A.cm) 96 (0, 0)))
  (hrow : W'.ownsRow base 101 1 (.slice (some iB') (h.items.length + 1 : Nat) iC') (h.items.length + 1) ((A.its.map fun a => .pointer (some ⟨a.b, 0, none⟩)) ++ [.pointer (some ⟨a.b, 0, none⟩)]))
  (hnew : iB'.block ∈ (A.iB.map (·.block)).toList ∨ W.heap.size <= iB'.block)
  (hnam : MapV Tryz.prog 9 W' A.nm (h.items.length + 1) (updF (strF (namF h.items A.its)) (sV it.post.label) (.pointer (some ⟨a.b, 0, none⟩))))
  (hit : ItIn base W' it a) (hnd : a.blks.Nodup) (hfr : ∀ b ∈ a.blks, W.heap.size <= b) (hne : iB'.block ∉ a.blks) (hlab : it.post.label ∉ h.items.map fun i => i.post.label) :
  HsIn base W' n nxA nxL nxC { h with items := h.items ++ [it] } { A with iB := some iB', iC := iC', its := A.its ++ [a] } := by
 have hnd0 := H.nodup
 unfold HsA.all at hnd0
 obtain ⟨n1, n2, n3⟩ := List.nodup_append.1 hnd0
 unfold HsA.own at n1
 obtain ⟨p1, p2, p3⟩ := List.nodup_append.1 n1
 have hlt := H.lt
 have hlo : ∀ b ∈ A.own, b < W.heap.size := fun b hb => (hlt b (List.mem_append_left _ hb)).2
 have hcm : A.cm ∉ S := fun hs => by
  have := hS _ hs
  simp at p1
  rcases List.mem_append.1 this with e | e
  ·simp at e
   rcases e with e | e <;> grind
  ·exact p3 A.cm (by simp) A.cm e rfl
 have hab : A.ab ∉ S := fun hs => by
  have := hS _ hs
  simp at p1
  rcases List.mem_append.1 this with e | e
  ·simp at e
   rcases e with e | e <;> grind
  ·exact p3 A.ab (by simp) A.ab e rfl
 have heb : A.eb ∉ S := fun hs => by
  have := hS _ hs
  simp at p1
  rcases List.mem_append.1 this with e | e
  ·simp at e
   rcases e with e | e <;> grind
  ·exact p3 A.eb (by simp) A.eb e rfl
 have hold : ∀ (i : Nat) (x : ItA), A.its[i]? = some x -> ∀ b ∈ x.blks, b ∉ S := fun i x hx b hb hs => by
  have h1 := hS b hs
  have h2 : b ∈ A.own := by
   unfold HsA.own
   rcases List.mem_append.1 h1 with e | e
   ·exact List.mem_append_left _ (by simp at e ⊢; rcases e with e | e <;> simp [e])
   ·exact List.mem_append_right _ e
  exact n3 b h2 b (List.mem_flatMap.2 ⟨x, List.mem_of_getElem? hx, hb⟩) rfl
 obtain ⟨m, hm⟩ := H.can
 refine ⟨by simpa using hb, H.ge, by simp [H.len], by simpa using hrow, ?_, ⟨m, hm.kept (hc.block _ hm.lt hcm)⟩, ⟨H.act.1, (hc.block _ (block_lt H.act.2) hab).trans H.act.2⟩, ⟨H.act2.1, (hc.block _ (block_lt H.act2.2) heb).trans H.act2.2⟩, fun i x y hx hy => ?_, ?_⟩
 ·rw [strF_upd, namF_snoc H.len hlab] at hnam
  simpa using hnam
 ·simp only at hx hy
  have hlen := H.len
  rw [List.getElem?_append] at hx hy
  by_cases hi : i < h.items.length
  ·rw [if_pos hi] at hx
   rw [if_pos (by omega)] at hy
   exact (H.item i x y hx hy).chg hc (hold i y hy)
  ·rw [if_neg hi] at hx
   rw [if_neg (by omega)] at hy
   have e0 : i - h.items.length = 0 := by
    have := (List.getElem?_eq_some_iff.1 hx).1
    simp at this
    omega
   rw [e0] at hx
   rw [hlen, e0] at hy
   cases hx
   cases hy
   exact hit
 ·have hall : ∀ b ∈ A.its.flatMap ItA.blks, b < W.heap.size := fun b hb => (hlt b (List.mem_append_right _ hb)).2
  show (([A.hb, A.nm, A.cm, A.ab, A.eb] ++ [iB'.block]) ++ (A.its ++ [a]).flatMap ItA.blks).Nodup
  rw [List.flatMap_append, List.flatMap_singleton]
  have hbk : iB'.block ∉ [A.hb, A.nm, A.cm, A.ab, A.eb] /\ iB'.block ∉ A.its.flatMap ItA.blks := by
   rcases hnew with e | e
   ·refine ⟨fun h => p3 _ h _ e rfl, fun h => n3 _ (List.mem_append_right _ e) _ h rfl⟩
   ·refine ⟨fun h => ?_, fun h => ?_⟩
    ·have := hlo _ (show iB'.block ∈ A.own from List.mem_append_left _ h)
     omega
    ·have := hall _ h
     omega
  refine List.nodup_append.2 ⟨List.nodup_append.2 ⟨p1, by simp, fun x hx y hy e => ?_⟩, List.nodup_append.2 ⟨n2, hnd, fun x hx y hy e => ?_⟩, fun x hx y hy e => ?_⟩
  ·simp at hy
   subst hy e
   exact hbk.1 hx
  ·subst e
   have h1 := hall x hx
   have h2 := hfr x hy
   omega
  ·subst e
   rcases List.mem_append.1 hx with hx | hx
   ·have hx' : x ∈ A.own := List.mem_append_left _ hx
    rcases List.mem_append.1 hy with hy | hy
    ·exact n3 x hx' x hy rfl
    ·have h1 := hlo x hx'
     have h2 := hfr x hy
     omega
   ·simp at hx
    subst hx
    rcases List.mem_append.1 hy with hy | hy
    ·exact hbk.2 hy
    ·exact hne hy
def allocs (w : World) : List Obj -> World
 | [] => w
 | o :: os => allocs (w.alloc o) os
theorem allocs_below : ∀ (os : List Obj) (w : World), Below w.heap.size w (allocs w os)
 | [], _ => Below.refl _ _
 | o :: os, w => bt (ba w o) (allocs_below os (w.alloc o))
theorem allocs_get : ∀ (os : List Obj) (w : World) (i : Nat) (o : Obj), os[i]? = some o -> (allocs w os).heap[w.heap.size + i]? = some o
 | [], _, _, _, h => by simp at h
 | o :: os, w, 0, x, h => by
  cases Option.some.inj h
  exact ((allocs_below os (w.alloc o)).block _ (by simp)).trans (heap_alloc_new w o)
 | o :: os, w, i + 1, x, h => by
  have := allocs_get os (w.alloc o) i x (by simpa using h)
  rw [World.size_alloc] at this
  rwa [show w.heap.size + (i + 1) = w.heap.size + 1 + i by omega]
theorem allocs_size : ∀ (os : List Obj) (w : World), (allocs w os).heap.size = w.heap.size + os.length
 | [], _ => rfl
 | o :: os, w => by
  show (allocs (w.alloc o) os).heap.size = _
  rw [allocs_size os, World.size_alloc]
  simp
  omega
theorem rd_block {w : World} {b : Nat} {cs : Array Value} {t : TypeId} {fr : Nat × Nat} (h : w.heap[b]? = some (.cells cs t fr)) : Rd w (some ⟨b, 0, none⟩) cs.toList :=
 .inr ⟨b, 0, rfl, block_lt h, fun i u hu => by rw [Nat.zero_add, cell_of_row _ _ _ _ _ _ h]; simpa using hu⟩
theorem i64_small {n : Int} (h1 : -1000000 <= n) (h2 : n <= 1000000) : I64 n := ⟨by omega, by omega⟩
theorem own_block {W : World} {base g : Nat} {e : TypeId} {cur : Array Value} {n size : Nat} {xs : List Value} (h : W.heap[g]? = some (.cells cur e (0, 0))) (hb : base <= g) (hn : cur.size = n * size) (hm : n <= maxLen) (hx : cur.toList = xs) : W.ownsRow base e size (.slice (some ⟨g, 0, none⟩) n n) n xs := by
 subst hx
 exact ⟨by simpa using hn, .inr ⟨g, n, cur, rfl, hb, h, Nat.le_refl _, hm, hn, by rw [List.take_of_length_le]; simp [hn]⟩⟩
theorem ChgS.set {S : List Nat} {A B : World} (h : ChgS S A B) {b : Nat} (i : Nat) (v : Value) (hb : b ∈ S ∨ A.heap.size <= b) : ChgS S A (B.setCell ⟨b, i, none⟩ v) :=
 h.trans (chg_set (W := B) i v [b] (by simp)) (fun c hc => by rw [List.mem_singleton.1 hc]; exact hb)
theorem ChgS.grown {S : List Nat} {A B C : World} {r : Option Nat} (h : ChgS S A B) (k : B.grownBy C r) (hr : ∀ x, r = some x -> x ∈ S ∨ A.heap.size <= x) : ChgS S A C :=
 h.trans (ChgS.of_grown (S := r.toList) k (fun x hx => by simp [hx])) (fun c hc => hr c (by simpa using hc))
theorem ownB_slice (A : Option Addr) (n c : Nat) : Value.ownBlock (.slice A n c) = A.map (·.block) := by cases A <;> rfl
theorem HsIn.apart {base : Nat} {W : World} {n : Net} {nxA : Option Addr} {nxL nxC : Nat} {h : Hst} {A : HsA} (H : HsIn base W n nxA nxL nxC h A) : A.hb ≠ A.nm /\ A.hb ≠ A.cm /\ A.nm ≠ A.cm /\ ∀ b, A.iB.map (·.block) = some b -> b ≠ A.hb /\ b ≠ A.nm /\ b ≠ A.cm := by
 obtain ⟨n1, -, -⟩ := List.nodup_append.1 H.nodup
 have n1' : ([A.hb, A.nm, A.cm, A.ab, A.eb] ++ (A.iB.map (·.block)).toList).Nodup := n1
 obtain ⟨p1, -, p3⟩ := List.nodup_append.1 n1'
 simp at p1
 refine ⟨by grind, by grind, by grind, fun b hb => ?_⟩
 have hm : b ∈ (A.iB.map (·.block)).toList := by rw [hb]; simp
 exact ⟨fun e => p3 A.hb (by simp) b hm e.symm, fun e => p3 A.nm (by simp) b hm e.symm, fun e => p3 A.cm (by simp) b hm e.symm⟩
theorem HsOk.mapI {n : Net} {nx : List NsC} {bef bef' : List Ded} {t : Int} {h : Hst} (H : HsOk n nx bef t h) (f : Itm -> Itm) (canc : List Int) (hb : (bef'.filter fun d => d.kind == 1).map (·.post) = (bef.filter fun d => d.kind == 1).map (·.post))
  (hf : ∀ it ∈ h.items, (f it).post = it.post /\ ItOk n (f it) /\ DecOk n nx canc (toOf h.items (f it)) (f it) /\ (∀ l ∈ (f it).labs, ∃ j ∈ h.items, j.post.label = l) /\ ItT t (f it)) : HsOk n nx bef' t ⟨h.items.map f, canc⟩ := by
 have hps : (h.items.map f).map (·.post) = h.items.map (·.post) := by
  rw [List.map_map]
  exact List.map_congr_left (fun it hi => (hf it hi).1)
 have hto : ∀ x, toLab (h.items.map f) x = toLab h.items x := toLab_posts hps
 refine ⟨hps.trans (H.posts.trans hb.symm), ?_, fun x hx => ?_, fun x hx => ?_, fun x hx => ?_, fun x hx l hl => ?_, fun x hx => ?_⟩
 ·have e : ((h.items.map f).map fun i => i.post.label) = (((h.items.map f).map (·.post)).map (·.label)) := by simp
  show ((h.items.map f).map fun i => i.post.label).Nodup
  rw [e, hps]
  simpa [Function.comp_def] using H.nodup
 all_goals obtain ⟨it, hi, rfl⟩ := List.mem_map.1 hx
 all_goals obtain ⟨a1, a2, a3, a4, a5⟩ := hf it hi
 ·rw [a1]
  exact H.pst it hi
 ·exact a2
 ·show DecOk n nx canc (toOf (h.items.map f) (f it)) (f it)
  unfold toOf
  rw [hto]
  exact a3
 ·obtain ⟨j, hj, e⟩ := a4 l hl
  exact ⟨f j, List.mem_map.2 ⟨j, hj, rfl⟩, by rw [(hf j hj).1]; exact e⟩
 ·exact a5
theorem ItOk.upd {n : Net} {it it' : Itm} (h : ItOk n it) (h1 : it'.stops = it.stops) (h2 : it'.seals = it.seals) (h3 : it'.post = it.post) (h4 : it'.since.length = it'.labs.length /\ it'.labs ≠ []) (h5 : ∀ t ∈ it'.since, 0 <= t /\ t <= 1000000) : ItOk n it' :=
 ⟨by rw [h1, h2]; exact h.path, by rw [h1, h3]; exact h.head, by rw [h1]; exact h.len, by rw [h1]; exact h.offs, h4, h5⟩
theorem hold_dec {n : Net} {nx : List NsC} {canc : List Int} {dst : Int} {it : Itm} (h : DecOk n nx canc dst it) : DecOk n nx canc dst (holdI n it) := by
 by_cases hl : it.line < 0
 ·unfold holdI
  rw [if_pos hl]
  have hm : decR n nx canc dst it = (-1, 0) := by
   rcases decR_cases n nx canc dst it with e | ⟨l, v, e, g⟩
   ·exact e
   ·have := h.1
    rw [e] at this
    have h2 := g.ge
    have h3 : it.line = l := this
    omega
  have hm2 : decR n nx canc dst { it with holds := it.holds + 1 } = (-1, 0) := by
   rcases decR_cases n nx canc dst { it with holds := it.holds + 1 } with e | ⟨l, v, e, g⟩
   ·exact e
   ·exfalso
    have h4 := g.at_
    have h5 : leaveF n l (it.holds + 1) (fromT n it) = some v := h4
    rw [leaveF_succ] at h5
    cases hx : leaveF n l it.holds (fromT n it) with
    | none =>
     rw [hx] at h5
     cases h5
    | some u =>
     have g2 : GoesBy n nx canc dst it l u := ⟨g.lost, g.away, g.nx_, g.nc, g.ge, hx⟩
     rw [decR_of g2] at hm
     have := g.ge
     have := congrArg Prod.fst hm
     simp at this
     omega
  have h1 := h.1
  have h2 := h.2
  rw [hm] at h1 h2
  exact ⟨by rw [hm2]; exact h1, by rw [hm2]; exact h2⟩
 ·have g := h.goes (by omega)
  unfold holdI
  rw [if_neg hl]
  have hs := leaveF_succ n it.line it.holds (fromT n it)
  rw [g.at_] at hs
  dsimp only at hs
  by_cases hd : (depT n it.line (it.leave + 1)).2 = 0
  ·rw [if_pos hd] at hs ⊢
   have g2 : GoesBy n nx canc dst { it with holds := it.holds + 1, leave := (depT n it.line (it.leave + 1)).1 } it.line (depT n it.line (it.leave + 1)).1 := ⟨g.lost, g.away, g.nx_, g.nc, g.ge, hs⟩
   exact ⟨by rw [decR_of g2], by rw [decR_of g2]⟩
  ·rw [if_neg hd] at hs ⊢
   have hm2 : decR n nx canc dst { it with holds := it.holds + 1, line := -1, leave := 0 } = (-1, 0) := by
    rcases decR_cases n nx canc dst { it with holds := it.holds + 1, line := -1, leave := 0 } with e | ⟨l, v, e, g2⟩
    ·exact e
    ·exfalso
     have e1 : nxAt nx (lastSt it.stops).office.toNat dst.toNat = l := g2.nx_
     rw [g.nx_] at e1
     have h4 : leaveF n l (it.holds + 1) (fromT n it) = some v := g2.at_
     rw [<- e1, hs] at h4
     cases h4
   exact ⟨by rw [hm2], by rw [hm2]⟩
theorem cancel_dec {n : Net} {nx : List NsC} {canc : List Int} {dst x : Int} {it : Itm} (h : DecOk n nx canc dst it) (hx : 0 <= x) : DecOk n nx (x :: canc) dst (if it.line = x then { it with line := -1, leave := 0 } else it) := by
 by_cases e : it.line = x
 ·rw [if_pos e]
  have g := h.goes (by omega)
  have hm2 : decR n nx (x :: canc) dst { it with line := -1, leave := 0 } = (-1, 0) := by
   rcases decR_cases n nx (x :: canc) dst { it with line := -1, leave := 0 } with e2 | ⟨l, v, e2, g2⟩
   ·exact e2
   ·exfalso
    have e1 : nxAt nx (lastSt it.stops).office.toNat dst.toNat = l := g2.nx_
    rw [g.nx_] at e1
    exact g2.nc (by rw [<- e1, e]; exact List.mem_cons_self ..)
  exact ⟨by rw [hm2], by rw [hm2]⟩
 ·rw [if_neg e]
  by_cases hl : 0 <= it.line
  ·have g := h.goes hl
   have g2 : GoesBy n nx (x :: canc) dst it it.line it.leave := ⟨g.lost, g.away, g.nx_, fun hm => by
    rcases List.mem_cons.1 hm with hm | hm
    ·exact e hm
    ·exact g.nc hm, g.ge, g.at_⟩
   exact ⟨by rw [decR_of g2], by rw [decR_of g2]⟩
  ·have hm : decR n nx canc dst it = (-1, 0) := by
    rcases decR_cases n nx canc dst it with e | ⟨l, v, e, g⟩
    ·exact e
    ·have := h.1
     rw [e] at this
     have h2 := g.ge
     have h3 : it.line = l := this
     omega
   have hm2 : decR n nx (x :: canc) dst it = (-1, 0) := by
    rcases decR_cases n nx (x :: canc) dst it with e2 | ⟨l, v, e2, g⟩
    ·exact e2
    ·exfalso
     have g2 : GoesBy n nx canc dst it l v := ⟨g.lost, g.away, g.nx_, fun hm => g.nc (List.mem_cons_of_mem _ hm), g.ge, g.at_⟩
     rw [decR_of g2] at hm
     have := g.ge
     have := congrArg Prod.fst hm
     simp at this
     omega
   have h1 := h.1
   have h2 := h.2
   rw [hm] at h1 h2
   exact ⟨by rw [hm2]; exact h1, by rw [hm2]; exact h2⟩
theorem HsOk.labels {n : Net} {nx : List NsC} {bef : List Ded} {t : Int} {h : Hst} (H : HsOk n nx bef t h) : (h.items.map fun i => i.post.label) = postedL bef := by
 have e : (h.items.map fun i => i.post.label) = (h.items.map (·.post)).map (·.label) := by simp
 rw [e, H.posts]
 unfold postedL
 simp
theorem HsOk.find {n : Net} {nx : List NsC} {bef : List Ded} {t : Int} {h : Hst} (H : HsOk n nx bef t h) {l : List UInt8} (hl : l ∈ postedL bef) : ∃ a ∈ h.items, a.post.label = l /\ findI h.items l = some a := by
 rw [<- H.labels] at hl
 obtain ⟨a, ha, e⟩ := List.mem_map.1 hl
 unfold findI
 cases hf : h.items.find? fun j => j.post.label == l with
 | none =>
  have := List.find?_eq_none.1 hf a ha
  simp [e] at this
 | some x =>
  have h1 := List.find?_some hf
  simp at h1
  exact ⟨x, List.mem_of_find?_eq_some hf, h1, rfl⟩
theorem nodup_inj {all : List Itm} (h : (all.map fun i => i.post.label).Nodup) {a b : Itm} (ha : a ∈ all) (hb : b ∈ all) (e : a.post.label = b.post.label) : a = b := by
 obtain ⟨i, hi⟩ := List.getElem?_of_mem ha
 obtain ⟨j, hj⟩ := List.getElem?_of_mem hb
 have hi2 : (all.map fun i => i.post.label)[i]? = some a.post.label := by rw [List.getElem?_map, hi]; rfl
 have hj2 : (all.map fun i => i.post.label)[j]? = some b.post.label := by rw [List.getElem?_map, hj]; rfl
 have : i = j := by
  have hil := (List.getElem?_eq_some_iff.1 hi2).1
  exact (List.getElem?_inj hil h).1 (by rw [hi2, hj2, e])
 subst this
 rw [hi] at hj
 exact Option.some.inj hj
theorem head_snoc {l : List Int} {x : Int} (h : l ≠ []) : (l ++ [x]).head? = l.head? := by
 cases l with
 | nil => exact absurd rfl h
 | cons a l => rfl
theorem relab_ok {n : Net} {it : Itm} {l : List UInt8} {t : Int} (h : ItOk n it) (h0 : 0 <= t) (h1 : t <= 1000000) : ItOk n (relabI it l t) :=
 h.upd rfl rfl rfl ⟨by unfold relabI; simp [h.labs.1], by unfold relabI; simp⟩ (fun x hx => by
  rcases List.mem_append.1 hx with hx | hx
  ·exact h.sin x hx
  ·rw [List.mem_singleton.1 hx]
   exact ⟨h0, h1⟩)
theorem relab_time {it : Itm} {l : List UInt8} {t : Int} (h : ItT t it) : ItT t (relabI it l t) :=
 ⟨h.dep, List.pairwise_append.2 ⟨h.up, List.pairwise_singleton .., fun a ha b hb => by rw [List.mem_singleton.1 hb]; exact h.sin a ha⟩, fun s hs => by
  rcases List.mem_append.1 hs with hs | hs
  ·exact h.sin s hs
  ·rw [List.mem_singleton.1 hs]; exact Int.le_refl _, by
  have hne : it.since ≠ [] := fun e => by have := h.head; rw [e] at this; cases this
  show (it.since ++ [t]).head? = _
  rw [head_snoc hne]
  exact h.head⟩
theorem toLab_app {all : List Itm} {i : Itm} {l : List UInt8} (h : ∃ j ∈ all, j.post.label = l) : toLab (all ++ [i]) l = toLab all l := by
 obtain ⟨j, hj, e⟩ := h
 unfold toLab
 rw [List.find?_append]
 cases hf : all.find? fun j => j.post.label == l with
 | none =>
  have := List.find?_eq_none.1 hf j hj
  simp [e] at this
 | some x => rfl
theorem toLab_new {all : List Itm} {i : Itm} (h : i.post.label ∉ all.map fun j => j.post.label) : toLab (all ++ [i]) i.post.label = i.post.dst := by
 unfold toLab
 rw [List.find?_append]
 have : (all.find? fun j => j.post.label == i.post.label) = none := List.find?_eq_none.2 (fun x hx e => h (List.mem_map.2 ⟨x, hx, by simpa using e⟩))
 rw [this]
 simp
theorem HsOk.act {n : Net} {nx : List NsC} {bef : List Ded} {d : Ded} {h : Hst} (H : HsOk n nx bef d.time h) (hd : DedOk n bef d) (h0 : 0 <= d.time) (h1 : d.time <= 1000000) : HsOk n nx (bef ++ [d]) d.time (actR n nx h d) := by
 have hfil : d.kind ≠ 1 -> ((bef ++ [d]).filter fun d => d.kind == 1).map (·.post) = (bef.filter fun d => d.kind == 1).map (·.post) := fun hk => by
  rw [List.filter_append]
  simp [hk]
 rcases hd with ⟨hk, hl, hnew, hfr, hto, hcl, hacc⟩ | ⟨hk, hl⟩ | ⟨hk, hl, ho, hne⟩ | ⟨hk, hl1, hl2⟩
 ·unfold actR
  rw [if_pos hk]
  have hnl : d.post.label ∉ h.items.map fun i => i.post.label := by rw [H.labels]; exact hnew
  have hnI : ItOk n (decideI n nx h.canc d.post.dst (newI d.post)) := ⟨⟨rfl, rfl⟩, ⟨_, [], rfl, rfl, rfl⟩, by show 1 <= 20; omega, fun s hs => by
   have hs' : s ∈ [(⟨d.post.frm, d.post.acc, -1, -1⟩ : St)] := hs
   rw [List.mem_singleton.1 hs']
   exact ⟨hfr.1, hfr.2, by show 0 <= d.post.acc; omega, by show d.post.acc <= _; omega⟩, ⟨rfl, by show [d.post.label] ≠ []; simp⟩, fun t ht => by
   have ht' : t ∈ [d.post.acc] := ht
   rw [List.mem_singleton.1 ht', hacc]
   exact ⟨h0, h1⟩⟩
  refine ⟨?_, ?_, fun x hx => ?_, fun x hx => ?_, fun x hx => ?_, fun x hx l hl => ?_, fun x hx => ?_⟩
  ·show List.map (fun i : Itm => i.post) (h.items ++ [_]) = _
   rw [List.filter_append, List.map_append, List.map_append, H.posts]
   simp [hk, decideI, newI]
  ·show (List.map (fun i : Itm => i.post.label) (h.items ++ [_])).Nodup
   rw [List.map_append]
   refine List.nodup_append.2 ⟨H.nodup, by simp, fun a ha b hb e => ?_⟩
   have hb' : b ∈ [d.post.label] := hb
   rw [List.mem_singleton.1 hb'] at e
   exact hnl (e ▸ ha)
  all_goals rcases List.mem_append.1 hx with hx | hx
  all_goals try rw [List.mem_singleton.1 hx]
  ·exact H.pst x hx
  ·exact ⟨hl, hfr, hto, hcl, by show 0 <= d.post.acc; omega, by show d.post.acc <= _; omega⟩
  ·exact H.item x hx
  ·exact hnI
  ·have e : toOf (h.items ++ [decideI n nx h.canc d.post.dst (newI d.post)]) x = toOf h.items x := toLab_app (H.labs x hx _ (carr_mem (H.item x hx).labs.2))
   show DecOk n nx h.canc (toOf (h.items ++ [decideI n nx h.canc d.post.dst (newI d.post)]) x) x
   rw [e]
   exact H.dec x hx
  ·have e : toOf (h.items ++ [decideI n nx h.canc d.post.dst (newI d.post)]) (decideI n nx h.canc d.post.dst (newI d.post)) = d.post.dst := toLab_new (i := decideI n nx h.canc d.post.dst (newI d.post)) hnl
   show DecOk n nx h.canc (toOf (h.items ++ [decideI n nx h.canc d.post.dst (newI d.post)]) _) _
   rw [e]
   exact decide_ok _ _ _ _ _
  ·obtain ⟨j, hj, e⟩ := H.labs x hx l hl
   exact ⟨j, List.mem_append_left _ hj, e⟩
  ·rw [List.mem_singleton.1 hx] at hl
   have hl' : l ∈ [d.post.label] := hl
   exact ⟨_, List.mem_append_right _ (List.mem_singleton.2 rfl), (List.mem_singleton.1 hl').symm⟩
  ·exact H.time x hx
  ·exact ⟨fun s hs => (by cases hs), List.pairwise_singleton .., fun s hs => by
    have hs' : s ∈ [d.post.acc] := hs
    rw [List.mem_singleton.1 hs', hacc]
    exact Int.le_refl _, rfl⟩
 ·unfold actR
  rcases hk with hk | hk
  ·rw [if_neg (by omega), if_pos hk]
   refine H.mapI _ h.canc (hfil (by omega)) (fun it hi => ?_)
   split
   ·exact ⟨rfl, (H.item it hi).upd rfl rfl rfl (H.item it hi).labs (H.item it hi).sin, decide_ok _ _ _ _ _, H.labs it hi, ⟨(H.time it hi).dep, (H.time it hi).up, (H.time it hi).sin, (H.time it hi).head⟩⟩
   ·exact ⟨rfl, H.item it hi, H.dec it hi, H.labs it hi, H.time it hi⟩
  ·rw [if_neg (by omega), if_neg (by omega), if_pos hk]
   refine H.mapI _ h.canc (hfil (by omega)) (fun it hi => ?_)
   split
   ·have e : (holdI n it).post = it.post /\ (holdI n it).stops = it.stops /\ (holdI n it).seals = it.seals /\ (holdI n it).since = it.since /\ (holdI n it).labs = it.labs := by
     unfold holdI
     split
     ·exact ⟨rfl, rfl, rfl, rfl, rfl⟩
     ·split <;> exact ⟨rfl, rfl, rfl, rfl, rfl⟩
    obtain ⟨e1, e2, e3, e4, e5⟩ := e
    refine ⟨e1, (H.item it hi).upd e2 e3 e1 (by rw [e4, e5]; exact (H.item it hi).labs) (by rw [e4]; exact (H.item it hi).sin), ?_, by rw [e5]; exact H.labs it hi, ⟨by rw [e2]; exact (H.time it hi).dep, by rw [e4]; exact (H.time it hi).up, by rw [e4]; exact (H.time it hi).sin, by rw [e4, e1]; exact (H.time it hi).head⟩⟩
    have : toOf h.items (holdI n it) = toOf h.items it := by unfold toOf carr; rw [e5]
    rw [this]
    exact hold_dec (H.dec it hi)
   ·exact ⟨rfl, H.item it hi, H.dec it hi, H.labs it hi, H.time it hi⟩
 ·unfold actR
  rw [if_neg (by omega), if_neg (by omega), if_neg (by omega), if_pos hk]
  obtain ⟨a, ha, ea, fa⟩ := H.find hl
  obtain ⟨b, hb, eb, fb⟩ := H.find ho
  rw [fa, fb]
  dsimp only
  have hca := H.labs a ha _ (carr_mem (H.item a ha).labs.2)
  have hcb := H.labs b hb _ (carr_mem (H.item b hb).labs.2)
  split
  ·refine H.mapI _ h.canc (hfil (by omega)) (fun it hi => ?_)
   have key : ∀ l, (∃ j ∈ h.items, j.post.label = l) -> (decideI n nx h.canc (toLab h.items l) (relabI it l d.time)).post = it.post /\ ItOk n (decideI n nx h.canc (toLab h.items l) (relabI it l d.time)) /\ DecOk n nx h.canc (toOf h.items (decideI n nx h.canc (toLab h.items l) (relabI it l d.time))) (decideI n nx h.canc (toLab h.items l) (relabI it l d.time)) /\ (∀ x ∈ (decideI n nx h.canc (toLab h.items l) (relabI it l d.time)).labs, ∃ j ∈ h.items, j.post.label = x) /\ ItT d.time (decideI n nx h.canc (toLab h.items l) (relabI it l d.time)) := fun l hl => by
    have hr := relab_ok (l := l) (H.item it hi) h0 h1
    have ht := relab_time (l := l) (H.time it hi)
    refine ⟨rfl, hr.upd rfl rfl rfl hr.labs hr.sin, ?_, fun x hx => ?_, ⟨ht.dep, ht.up, ht.sin, ht.head⟩⟩
    ·have e : toOf h.items (decideI n nx h.canc (toLab h.items l) (relabI it l d.time)) = toLab h.items l := by
      unfold toOf
      congr 1
      unfold carr decideI relabI
      simp
     rw [e]
     exact decide_ok _ _ _ _ _
    ·rcases List.mem_append.1 hx with hx | hx
     ·exact H.labs it hi x hx
     ·rw [List.mem_singleton.1 hx]
      exact hl
   unfold swapI
   split
   ·exact key _ hcb
   ·split
    ·exact key _ hca
    ·exact ⟨rfl, H.item it hi, H.dec it hi, H.labs it hi, H.time it hi⟩
  ·exact ⟨H.posts.trans (hfil (by omega)).symm, H.nodup, H.pst, H.item, H.dec, H.labs, H.time⟩
 ·unfold actR
  rw [if_neg (by omega), if_neg (by omega), if_neg (by omega), if_neg (by omega)]
  refine H.mapI _ (d.line :: h.canc) (hfil (by omega)) (fun it hi => ?_)
  have hc := cancel_dec (x := d.line) (H.dec it hi) hl1
  split
  ·rename_i e
   rw [if_pos e] at hc
   exact ⟨rfl, (H.item it hi).upd rfl rfl rfl (H.item it hi).labs (H.item it hi).sin, hc, H.labs it hi, ⟨(H.time it hi).dep, (H.time it hi).up, (H.time it hi).sin, (H.time it hi).head⟩⟩
  ·rename_i e
   rw [if_neg e] at hc
   exact ⟨rfl, H.item it hi, hc, H.labs it hi, H.time it hi⟩
theorem run_ind {n : Net} {nx : List NsC} (hG : Good n) (hF : Formed n nx) {Q : List Ded -> Int -> Hst -> Prop}
  (hproc : ∀ bef t u h l, Q bef t h -> HsOk n nx bef t h -> t <= u -> procF n nx h.canc u h.items h.items = some l -> Q bef u ⟨l, h.canc⟩)
  (hact : ∀ bef d h, Q bef d.time h -> HsOk n nx bef d.time h -> DedOk n bef d -> 0 <= d.time -> d.time <= 1000000 -> Q (bef ++ [d]) d.time (actR n nx h d)) :
  ∀ {ds bef : List Ded} {t : Int} {h h' : Hst}, runF n nx ds h = some h' -> DedsOk n bef t ds -> 0 <= t -> t <= 1000000 -> HsOk n nx bef t h -> Q bef t h -> HsOk n nx (bef ++ ds) bigT h' /\ Q (bef ++ ds) bigT h' /\ ∀ it ∈ h'.items, it.line < 0
 | [], bef, t, h, h', hr, _, _, ht, H, hq => by
  unfold runF at hr
  obtain ⟨l, hl, rfl⟩ := Option.map_eq_some_iff.1 hr
  have hb : t <= bigT := by unfold bigT; omega
  obtain ⟨a, b⟩ := H.proc hG hF hb hl
  rw [List.append_nil]
  refine ⟨a, hproc _ _ _ _ _ hq H hb hl, fun it hi => ?_⟩
  have h1 := b it hi
  have h2 := a.dst hi
  by_cases h3 : 0 <= it.line
  ·exfalso
   have := (goes_hop hG hF (a.item it hi) h2 (a.dec it hi) h3).2.2.2.2.1
   exact h1 ⟨h3, by unfold bigT; omega⟩
  ·omega
 | d :: ds, bef, t, h, h', hr, hd, h0, ht, H, hq => by
  unfold runF at hr
  obtain ⟨d1, d2, d3, d4⟩ := hd
  split at hr
  ·cases hr
  ·rename_i l hl
   obtain ⟨a, b⟩ := H.proc hG hF d1 hl
   have hq2 := hproc _ _ _ _ _ hq H d1 hl
   have ha := a.act d3 (by omega) d2
   have hq3 := hact _ _ _ hq2 a d3 (by omega) d2
   have := run_ind hG hF hproc hact hr d4 (by omega) d2 ha hq3
   rwa [List.append_assoc] at this
theorem hs_nil (n : Net) (nx : List NsC) : HsOk n nx [] 0 ⟨[], []⟩ := ⟨rfl, List.Pairwise.nil, fun _ h => (by cases h), fun _ h => (by cases h), fun _ h => (by cases h), fun _ h => (by cases h), fun _ h => (by cases h)⟩
theorem run_ok {n : Net} {nx : List NsC} (hG : Good n) (hF : Formed n nx) {ds : List Ded} {h : Hst} (hr : runR n nx ds = some h) (hd : DedsOk n [] 0 ds) : HsOk n nx ds bigT h /\ ∀ it ∈ h.items, it.line < 0 := by
 have := run_ind (Q := fun _ _ _ => True) hG hF (fun _ _ _ _ _ _ _ _ _ => trivial) (fun _ _ _ _ _ _ _ _ => trivial) hr hd (by omega) (by omega) (hs_nil n nx) trivial
 exact ⟨this.1, this.2.2⟩
inductive Moves (n : Net) (nx : List NsC) (canc : List Int) (dst before : Int) : Itm -> Itm -> Prop
 | stay {it : Itm} (h : ¬ (0 <= it.line /\ it.leave < before)) : Moves n nx canc dst before it it
 | go {it it' : Itm} (h : 0 <= it.line /\ it.leave < before) (h2 : it.stops.length < 20) (hm : Moves n nx canc dst before (stepI n nx canc dst it) it') : Moves n nx canc dst before it it'
theorem moves_of {n : Net} {nx : List NsC} {canc : List Int} {dst before : Int} : ∀ {f : Nat} {it it' : Itm}, moveF n nx canc dst before f it = some it' -> Moves n nx canc dst before it it'
 | 0, _, _, h => by cases h
 | f + 1, it, it', h => by
  unfold moveF at h
  split at h
  ·rename_i g
   split at h
   ·cases h
   ·exact .go g (by omega) (moves_of h)
  ·rename_i g
   cases h
   exact .stay g
def actsF (n : Net) (nx : List NsC) : List Ded -> Hst -> Option Hst
 | [], h => some h
 | d :: ds, h => match procF n nx h.canc d.time h.items h.items with
  | none => none
  | some l => actsF n nx ds (actR n nx { h with items := l } d)
theorem runF_acts (n : Net) (nx : List NsC) : ∀ (ds : List Ded) (h : Hst), runF n nx ds h = (actsF n nx ds h).bind fun g => (procF n nx g.canc bigT g.items g.items).map fun l => { g with items := l }
 | [], h => rfl
 | d :: ds, h => by
  rw [runF, actsF]
  cases procF n nx h.canc d.time h.items h.items with
  | none => rfl
  | some l => exact runF_acts n nx ds _
theorem actsF_app (n : Net) (nx : List NsC) : ∀ (ds bs : List Ded) (h : Hst), actsF n nx (ds ++ bs) h = (actsF n nx ds h).bind (actsF n nx bs)
 | [], _, _ => rfl
 | d :: ds, bs, h => by
  rw [List.cons_append, actsF, actsF]
  cases procF n nx h.canc d.time h.items h.items with
  | none => rfl
  | some l => exact actsF_app n nx ds bs _
theorem toLab_one {all : List Itm} (hn : (all.map fun i => i.post.label).Nodup) {x : Itm} (hx : x ∈ all) : toLab all x.post.label = x.post.dst := by
 unfold toLab
 cases hf : all.find? fun j => j.post.label == x.post.label with
 | none =>
  have := List.find?_eq_none.1 hf x hx
  simp at this
 | some y =>
  have h1 := List.find?_some hf
  simp at h1
  have : y = x := nodup_inj hn (List.mem_of_find?_eq_some hf) hx h1
  rw [this]
  rfl
theorem toOf_one {all : List Itm} (hn : (all.map fun i => i.post.label).Nodup) {x : Itm} (hx : x ∈ all) (hl : x.labs = [x.post.label]) : toOf all x = x.post.dst := by
 unfold toOf carr
 rw [hl]
 exact toLab_one hn hx
theorem toOf_self {x : Itm} (hl : x.labs = [x.post.label]) : toOf [x] x = x.post.dst := toOf_one (all := [x]) (by simp) (List.mem_singleton.2 rfl) hl
theorem proc_one {n : Net} {nx : List NsC} {canc : List Int} {u : Int} {x : Itm} {l : List Itm} (h : procF n nx canc u [x] [x] = some l) : ∃ y, l = [y] /\ Moves n nx canc (toOf [x] x) u x y := by
 unfold procF at h
 split at h
 ·cases h
 ·rename_i y hy
  cases h
  exact ⟨y, rfl, moves_of hy⟩
theorem acts_post {n : Net} {nx : List NsC} {d : Ded} (hk : d.kind = 1) : actsF n nx [d] ⟨[], []⟩ = some ⟨[decideI n nx [] d.post.dst (newI d.post)], []⟩ := by
 show some (actR n nx ⟨[], []⟩ d) = _
 unfold actR
 rw [if_pos hk]
 rfl
theorem newI_to {n : Net} {nx : List NsC} {p : Pst} : toOf [decideI n nx [] p.dst (newI p)] (decideI n nx [] p.dst (newI p)) = p.dst := toOf_self (x := decideI n nx [] p.dst (newI p)) rfl
theorem run_post {n : Net} {nx : List NsC} {d : Ded} {h : Hst} (hk : d.kind = 1) (hr : runR n nx [d] = some h) : ∃ e, h.items = [e] /\ Moves n nx [] d.post.dst bigT (decideI n nx [] d.post.dst (newI d.post)) e := by
 unfold runR at hr
 rw [runF_acts, acts_post hk] at hr
 obtain ⟨l, hl, rfl⟩ := Option.map_eq_some_iff.1 hr
 obtain ⟨y, rfl, hm⟩ := proc_one hl
 rw [newI_to] at hm
 exact ⟨y, rfl, hm⟩
def spotF (t : Int) : List St -> Option (Int × Int)
 | [] => none
 | s :: l => if t < s.arrive then spotF t l else if s.depart = -1 ∨ t <= s.depart then some (s.office, -1) else some (-1, s.line)
def spotR (l : List St) (t : Int) : Option (Int × Int) := spotF t l.reverse
end Go.Proofs.YtpeaiphdkgifaaaGreatDoor
