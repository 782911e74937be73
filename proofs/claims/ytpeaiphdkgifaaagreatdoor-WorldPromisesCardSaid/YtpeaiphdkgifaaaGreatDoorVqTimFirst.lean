/- The walk over timetable.first. -/
import Derived.Test.YtpeaiphdkgifaaaGreatDoorVqTimThe
import Derived.WalkMore
namespace Go.Proofs.YtpeaiphdkgifaaaGreatDoor
open Go.RowKit
set_option maxHeartbeats 20000000
set_option maxRecDepth 100000
section
attribute [local go_sem] Oper.semAt_some
structure TfS (w W : World) (n : Net) (l : Nat) (t : Int) : Prop where
 bel : Below w.heap.size w W
 p0 : W.heap[w.heap.size]? = some (ae n)
 p1 : W.heap[w.heap.size + 1]? = some (.cells #[iV l] 3 (0, 0))
 p2 : W.heap[w.heap.size + 1 + 1]? = some (.cells #[iV t] 3 (0, 0))
 p3 : W.heap[w.heap.size + 1 + 1 + 1]? = some (.cells #[iV 0] 3 (0, 0))
 p4 : W.heap[w.heap.size + 1 + 1 + 1 + 1]? = some (.cells #[.bool false] 4 (0, 0))
theorem TfS.below {w W W' : World} {n : Net} {l : Nat} {t : Int} (h : TfS w W n l t) (hb : Below W.heap.size W W') : TfS w W' n l t :=
 ⟨bt h.bel hb, (hb.block _ (aa h.p0)).trans h.p0, (hb.block _ (aa h.p1)).trans h.p1, (hb.block _ (aa h.p2)).trans h.p2, (hb.block _ (aa h.p3)).trans h.p3, (hb.block _ (aa h.p4)).trans h.p4⟩
theorem TfS.net {w W : World} {n : Net} {l : Nat} {t : Int} (h : TfS w W n l t) (hn : bj w n) : br W w.heap.size n := ⟨fun _ _ hv => (aA _ h.p0).trans hv, hn.below h.bel⟩
def TfRet (w : World) (c : Cal) (m t : Int) (pre : List (lh c)) (W : World) : Prop := ∃ (x : lh c) (p' : List (lh c)), pre = p' ++ [x] /\ (∀ y ∈ gO p', be c y m < t) /\ t <= be c x.1 m /\ be c x.1 m < t + 86400 /\ W.cell? (aV (w.heap.size + 1 + 1 + 1) 0) = some (iV (be c x.1 m)) /\ W.cell? (aV (w.heap.size + 1 + 1 + 1 + 1) 0) = some (.bool true) /\ Below w.heap.size w W
def TfEx (w4 : World) (c : Cal) (m t : Int) (pre : List (lh c)) (W : World) : Prop := ∃ (x : lh c) (p' : List (lh c)), pre = p' ++ [x] /\ (∀ y ∈ gO p', be c y m < t) /\ t + 86400 <= be c x.1 m /\ Below w4.heap.size w4 W
abbrev tfW (w : World) (n : Net) (l : Nat) (t : Int) : World := ((((w.alloc (ae n)).alloc (.cells #[iV l] 3)).alloc (.cells #[iV t] 3)).alloc (.cells #[iV 0] 3)).alloc (.cells #[.bool false] 4)
theorem TfS.new (w : World) (n : Net) (l : Nat) (t : Int) : TfS w (tfW w n l t) n l t := by
 have h0 := aC w (ae n)
 have h1 := aC (w.alloc (ae n)) (.cells #[iV l] 3)
 have h2 := aC ((w.alloc (ae n)).alloc (.cells #[iV l] 3)) (.cells #[iV t] 3)
 have h3 := aC (((w.alloc (ae n)).alloc (.cells #[iV l] 3)).alloc (.cells #[iV t] 3)) (.cells #[iV 0] 3)
 have h4 := aC ((((w.alloc (ae n)).alloc (.cells #[iV l] 3)).alloc (.cells #[iV t] 3)).alloc (.cells #[iV 0] 3)) (.cells #[.bool false] 4)
 simp only [aT] at h1 h2 h3 h4
 refine ⟨((((ba w _).alloc (by simp) _).alloc (by simp; omega) _).alloc (by simp; omega) _).alloc (by simp; omega) _, ?_, ?_, ?_, ?_, h4⟩
 ·exact (aK _ _ _ (by simp <;> omega)).trans ((aK _ _ _ (by simp <;> omega)).trans ((aK _ _ _ (by simp <;> omega)).trans ((aK _ _ _ (by simp)).trans h0)))
 ·exact (aK _ _ _ (by simp <;> omega)).trans ((aK _ _ _ (by simp <;> omega)).trans ((aK _ _ _ (by simp)).trans h1))
 ·exact (aK _ _ _ (by simp <;> omega)).trans ((aK _ _ _ (by simp)).trans h2)
 ·exact (aK _ _ _ (by simp)).trans h3
theorem qX (n : Net) (l o ci : Nat) (L : Lin) (of : Off) (c : Cal) (t : Int) (w : World) (hn : bj w n) (h0 : n.lins[l]? = some L) (hf : L.frm = (o : Int)) (h1 : n.offs[o]? = some of) (h2 : of.cal = (ci : Int)) (h3 : n.cals[ci]? = some c) (hv : du c = true) (a1 : 0 <= L.at_) (a2 : L.at_ < 1440) (t1 : 0 <= t) (t2 : t <= 3000000) :
  Calls Tryz.prog 45 #[bB n, iV l, iV t] w fun e w' => e = .returned (.tuple #[iV (ak c L.at_ t).1, .bool ((ak c L.at_ t).2 == 0)]) /\ Below w.heap.size w w' := by
 have HT := aB (TfS.new w n l t)
 have HNI := aB hn
 have HV := aB hv
 have HZ := aB (cV hv)
 have HARG : Hid (n.lins[l]? = some L /\ L.frm = (o : Int) /\ n.offs[o]? = some of /\ of.cal = (ci : Int) /\ n.cals[ci]? = some c) := ⟨h0, hf, h1, h2, h3⟩
 clear hn h0 hf h1 h2 h3 hv
 have n0 : (tfW w n l t).cell? (aV w.heap.size 0) = some (.slice n.calA n.cals.length n.calC) := (HT.out.net HNI.out).box 0 _ rfl
 have n1 : (tfW w n l t).cell? (aV w.heap.size 1) = some (.slice n.namA n.names.length n.namC) := (HT.out.net HNI.out).box 1 _ rfl
 have n2 : (tfW w n l t).cell? (aV w.heap.size 2) = some (.slice n.opA n.ops.length n.opC) := (HT.out.net HNI.out).box 2 _ rfl
 have n3 : (tfW w n l t).cell? (aV w.heap.size 3) = some (.slice n.offA n.offs.length n.offC) := (HT.out.net HNI.out).box 3 _ rfl
 have n4 : (tfW w n l t).cell? (aV w.heap.size 4) = some (.slice n.linA n.lins.length n.linC) := (HT.out.net HNI.out).box 4 _ rfl
 have n5 : (tfW w n l t).cell? (aV w.heap.size 5) = some (.slice n.clsA n.clss.length n.clsC) := (HT.out.net HNI.out).box 5 _ rfl
 have k1 : (tfW w n l t).cell? (aV (w.heap.size + 1) 0) = some (iV l) := aA 0 HT.out.p1
 refine eT Tryz.func45 rfl ?_
 simp only [Tryz.ntmps45, List.size_toArray, List.length_cons, List.length_nil, Nat.reduceAdd, Nat.reduceSub, Array.replicate_succ, Array.replicate_zero, List.push_toArray, List.append_toArray, List.nil_append, List.cons_append]
 go_upto_region 1 with fail
 change Code.wp _ _ _ _ (tfW w n l t)
 generalize tfW w n l t = W0 at *
 apply wp_scope_straight
 go_wp2_with fail
 refine (uY n l o ci L of c _ (HT.out.net HNI.out).net HARG.out.1 HARG.out.2.1 HARG.out.2.2.1 HARG.out.2.2.2.1 HARG.out.2.2.2.2).mono ?_
 rintro e w1 ⟨rfl, hb⟩
 have HT1 := aB (HT.out.below hb)
 clear hb n0 n1 n2 n3 n4 n5 k1 HT
 go_upto_region 2 with fail
 have hcz := aC w1 (.cells #[iV c.zone, .slice c.wA c.week.length c.wc, .slice c.hA c.hol.length c.hc] 110)
 have HT2 := aB (HT1.out.below (ba w1 (.cells #[iV c.zone, .slice c.wA c.week.length c.wc, .slice c.hA c.hol.length c.hc] 110)))
 have HZ2 := aB hcz
 clear hcz
 change Code.wp _ _ _ _ (w1.alloc (.cells #[iV c.zone, .slice c.wA c.week.length c.wc, .slice c.hA c.hol.length c.hc] 110))
 generalize (w1.alloc (.cells #[iV c.zone, .slice c.wA c.week.length c.wc, .slice c.hA c.hol.length c.hc] 110)) = W2 at *
 generalize hZZ : w1.heap.size = Z at *
 have HCI : Hid (∀ wr, TfS w wr n l t -> cP wr c) := fun wr h => (h.net HNI.out).net.cal c (aF HARG.out.2.2.2.2)
 have z0 : W2.cell? (aV Z 0) = some (iV c.zone) := aA 0 HZ2.out
 have z1 : W2.cell? (aV Z 1) = some (.slice c.wA c.week.length c.wc) := aA 1 HZ2.out
 have z2 : W2.cell? (aV Z 2) = some (.slice c.hA c.hol.length c.hc) := aA 2 HZ2.out
 have k2 : W2.cell? (aV (w.heap.size + 1 + 1) 0) = some (iV t) := aA 0 HT2.out.p2
 clear hZZ HT1
 go_wp2_with fail
 refine (gV c t _ (HCI.out _ HT2.out) HV.out (by omega) (by omega)).mono ?_
 rintro e w3 ⟨rfl, hb⟩
 have HT3 := aB (HT2.out.below hb)
 have HZ3 : Hid (w3.heap[Z]? = some (.cells #[iV c.zone, .slice c.wA c.week.length c.wc, .slice c.hA c.hol.length c.hc] 110 (0, 0))) := (hb.block _ (aa HZ2.out)).trans HZ2.out
 clear hb z0 z1 z2 k2 HT2 HZ2
 have z0 : w3.cell? (aV Z 0) = some (iV c.zone) := aA 0 HZ3.out
 have z1 : w3.cell? (aV Z 1) = some (.slice c.wA c.week.length c.wc) := aA 1 HZ3.out
 have z2 : w3.cell? (aV Z 2) = some (.slice c.hA c.hol.length c.hc) := aA 2 HZ3.out
 have hdr : -1000 <= bc c t /\ bc c t <= 3000 := by have := HZ.out; unfold bc; omega
 have HDR := aB hdr
 go_wp2_with fail
 apply wp_label
 go_wp2_with fail
 refine (qQ c (bc c t) (bc c t + 60) _ (HCI.out _ HT3.out)).mono ?_
 rintro e w4 ⟨B1, B2, B3, rfl, hwt, hb⟩
 have HT4 := aB (HT3.out.below hb)
 have HZ4 : Hid (w4.heap[Z]? = some (.cells #[iV c.zone, .slice c.wA c.week.length c.wc, .slice c.hA c.hol.length c.hc] 110 (0, 0))) := (hb.block _ (aa HZ3.out)).trans HZ3.out
 have HWT := aB hwt
 clear hb z0 z1 z2 HT3 HZ3 hwt hdr
 go_wp2_with fail
 have hz4 : w.heap.size <= w4.heap.size := HT4.out.bel.size
 refine (wpIn_wide (n := 9)).1 (wpIn_rangeFunc_ownF (F := Fence.wide) (n := 9) rfl (by omega) (gf := 148) (lb := #[.pointer (some (aV B1 0)), .pointer (some (aV B2 0)), .pointer (some (aV B3 0))]) rfl trivial (enters_of Tryz.func148 (by kernel_rfl) rfl)
  (uQ c B1 B2 B3 (bc c t) (bc c t + 60) w4 HWT.out HV.out (by have := HDR.out; omega) (by have := HDR.out; omega) (by omega)) (fun h k => belowK_t h k) (belowK_b (aH _)) (aJ _ _) (fun _ => rfl)
  (fun pre W => (∀ y ∈ gO pre, be c y L.at_ < t) /\ Below w4.heap.size w4 W)
  (fun cd pre W => (cd = .ret /\ TfRet w c L.at_ t pre W) ∨ (cd = .exit 0 /\ TfEx w4 c L.at_ t pre W))
  (fun s A B row hs hg hr => ⟨hs.1, hs.2.grown hg hs.2.size (fun k e => (hr k e).1)⟩)
  (fun cd s A B row hs hg hr => by
   rcases hs with ⟨h1, x, p', h2, h3, h4, h5, h6, h7, h8⟩ | ⟨h1, x, p', h2, h3, h4, h5⟩
   ·exact .inl ⟨h1, x, p', h2, h3, h4, h5, cell_kept h6 hg (fun r e => (hr r e).2), cell_kept h7 hg (fun r e => (hr r e).2), h8.grown hg h8.size (fun k e => aG hz4 (hr k e).1)⟩
   ·exact .inr ⟨h1, x, p', h2, h3, h4, h5.grown hg h5.size (fun k e => (hr k e).1)⟩)
  ⟨(fun y hy => by simp [gO] at hy), aJ _ _⟩
  (fun x => { tmps := #[bB n, iV l, iV t, .pointer (some (aV w.heap.size 0)), .pointer (some (aV (w.heap.size + 1) 0)), .pointer (some (aV (w.heap.size + 1 + 1) 0)), .pointer (some (aV (w.heap.size + 1 + 1 + 1) 0)), .pointer (some (aV (w.heap.size + 1 + 1 + 1 + 1) 0)), .pointer (some (aV Z 0)), iV (bc c t), iV (fN c t), iV x.1, undef, .agg #[.slice n.calA n.cals.length n.calC, .slice n.namA n.names.length n.namC, .slice n.opA n.ops.length n.opC, .slice n.offA n.offs.length n.offC, .slice n.linA n.lins.length n.linC, .slice n.clsA n.clss.length n.clsC], iV l, eI c, .tuple #[iV (bc c t), iV (fN c t)], .agg #[iV c.zone, .slice c.wA c.week.length c.wc, .slice c.hA c.hol.length c.hc], iV t, .tuple #[iV (bc c t), iV (fN c t)], iV (bc c t), iV (fN c t), .agg #[iV c.zone, .slice c.wA c.week.length c.wc, .slice c.hA c.hol.length c.hc], iV (bc c t), iV (bc c t), .int .i64 (bc c t + 60), .func (.func 148) #[] #[.pointer (some (aV B1 0)), .pointer (some (aV B2 0)), .pointer (some (aV B3 0))], iV x.1, undef, undef, undef, undef, undef, undef, undef, undef, undef, undef, undef, undef, undef, undef, undef, undef, undef], defers := [] }) ?assign ?body ?done ?stop)
 case assign =>
  intro l' x W K hK
  gi_wp2
  exact hK
 case body =>
  rintro l' pre x W ⟨hall, hb⟩ -
  have HALL := aB hall
  have HB := aB hb
  have HTW := aB (HT4.out.below hb)
  have hzr := (hb.block _ (aa HZ4.out)).trans HZ4.out
  obtain ⟨-, lb, lo, hlA, hlb, -, hlc⟩ := ay bT (HTW.out.net HNI.out).net.lins HARG.out.1 (by omega)
  have HSP : Hid (∀ w', Below W.heap.size W w' -> (fun w' => w'.cell? (aV Z 0) = some (iV c.zone) /\ w'.cell? (aV Z 1) = some (.slice c.wA c.week.length c.wc) /\ w'.cell? (aV Z 2) = some (.slice c.hA c.hol.length c.hc) /\ w'.cell? (aV w.heap.size 4) = some (.slice (some (aV lb lo)) n.lins.length n.linC) /\ w'.cell? (aV (w.heap.size + 1) 0) = some (iV l) /\ w'.cell? (aV lb (lo + l * 6 + 3)) = some (iV L.at_)) w') := fun w' hb' => by
   have hz := (hb'.block _ (aa hzr)).trans hzr
   have ht := HTW.out.below hb'
   refine ⟨aA 0 hz, aA 1 hz, aA 2 hz, ?_, aA 0 ht.p1, (hb'.cell (p := (aV lb _)) hlb).trans (hlc 3 _ rfl)⟩
   rw [<- hlA]
   exact (ht.net HNI.out).box 4 _ rfl
  have HLL := (aE.1 HARG.out.1).1
  have hll := (HTW.out.net HNI.out).net.lens.2.2.2.2.1
  unfold maxLen at hll
  have j1 : (0 : Int) <= (l : Int) := by omega
  have j2 : (l : Int) < (n.lins.length : Int) := by omega
  have HXR : Hid (dr x.1 = true) := x.2.2
  clear hall hb hzr hlA hlb hlc
  refine wpIn_block ?_
  refine wpIn_seq ?_
  refine gK (S := fun w' => w'.cell? (aV Z 0) = some (iV c.zone) /\ w'.cell? (aV Z 1) = some (.slice c.wA c.week.length c.wc) /\ w'.cell? (aV Z 2) = some (.slice c.hA c.hol.length c.hc) /\ w'.cell? (aV w.heap.size 4) = some (.slice (some (aV lb lo)) n.lins.length n.linC) /\ w'.cell? (aV (w.heap.size + 1) 0) = some (iV l) /\ w'.cell? (aV lb (lo + l * 6 + 3)) = some (iV L.at_)) (by kernel_rfl) (by kernel_rfl) (fun ⟨_, _, h⟩ => h) ?_
  have hHeld := HSP.out _ (al (aJ _ _))
  refine wpAnyH_take (i := 0) (v := ?_) rfl (by kernel_rfl) (by kernel_rfl) (by kernel_rfl) (fun _ _ _ h => h) (Or.inl ⟨by kernel_rfl, ?_⟩) (by assumption) ?_
  rotate_left
  ·(intro w hSw; (try dsimp only at hSw); go_simp; (try with_reducible rfl))
  try simp only [Act.put, List.getElem_toArray, List.getElem_cons_zero, List.setIfInBounds_toArray, List.set_cons_zero, List.set_cons_succ]
  refine wpAnyH_take (i := 1) (v := ?_) rfl (by kernel_rfl) (by kernel_rfl) (by kernel_rfl) (fun _ _ _ h => h) (Or.inl ⟨by kernel_rfl, ?_⟩) (by assumption) ?_
  rotate_left
  ·(intro w hSw; (try dsimp only at hSw); go_simp; (try with_reducible rfl))
  try simp only [Act.put, List.getElem_toArray, List.getElem_cons_succ, List.getElem_cons_zero, List.setIfInBounds_toArray, List.set_cons_zero, List.set_cons_succ]
  refine wpAnyH_take (i := 2) (v := ?_) rfl (by kernel_rfl) (by kernel_rfl) (by kernel_rfl) (fun _ _ _ h => h) (Or.inl ⟨by kernel_rfl, ?_⟩) (by assumption) ?_
  rotate_left
  ·(intro w hSw; (try dsimp only at hSw); go_simp; (try with_reducible rfl))
  try simp only [Act.put, List.getElem_toArray, List.getElem_cons_succ, List.getElem_cons_zero, List.setIfInBounds_toArray, List.set_cons_zero, List.set_cons_succ]
  refine wpAnyH_take (i := 3) (v := ?_) rfl (by kernel_rfl) (by kernel_rfl) (by kernel_rfl) (fun _ _ _ h => h) (Or.inl ⟨by kernel_rfl, ?_⟩) (by assumption) ?_
  rotate_left
  ·(intro w hSw; (try dsimp only at hSw); go_simp; (try with_reducible rfl))
  try simp only [Act.put, List.getElem_toArray, List.getElem_cons_succ, List.getElem_cons_zero, List.setIfInBounds_toArray, List.set_cons_zero, List.set_cons_succ]
  refine wpAnyH_take (i := 4) (v := ?_) rfl (by kernel_rfl) (by kernel_rfl) (by kernel_rfl) (fun _ _ _ h => h) (Or.inl ⟨by kernel_rfl, ?_⟩) (by assumption) ?_
  rotate_left
  ·(intro w hSw; (try dsimp only at hSw); go_simp; (try with_reducible rfl))
  try simp only [Act.put, List.getElem_toArray, List.getElem_cons_succ, List.getElem_cons_zero, List.setIfInBounds_toArray, List.set_cons_zero, List.set_cons_succ]
  refine wpAnyH_take (i := 5) (v := ?_) rfl (by kernel_rfl) (by kernel_rfl) (by kernel_rfl) (fun _ _ _ h => h) (Or.inl ⟨by kernel_rfl, ?_⟩) (by assumption) ?_
  rotate_left
  ·(intro w hSw; (try dsimp only at hSw); go_simp; (try with_reducible rfl))
  try simp only [Act.put, List.getElem_toArray, List.getElem_cons_succ, List.getElem_cons_zero, List.setIfInBounds_toArray, List.set_cons_zero, List.set_cons_succ]
  refine wpAnyH_take (i := 6) (v := ?_) rfl (by kernel_rfl) (by kernel_rfl) (by kernel_rfl) (fun _ _ _ h => h) (Or.inl ⟨by kernel_rfl, ?_⟩) (by assumption) ?_
  rotate_left
  ·(intro w hSw; (try dsimp only at hSw); go_simp; (try with_reducible rfl))
  try simp only [Act.put, List.getElem_toArray, List.getElem_cons_succ, List.getElem_cons_zero, List.setIfInBounds_toArray, List.set_cons_zero, List.set_cons_succ]
  refine wpAnyH_take (i := 7) (v := ?_) rfl (by kernel_rfl) (by kernel_rfl) (by kernel_rfl) (fun _ _ _ h => h) (Or.inl ⟨by kernel_rfl, ?_⟩) (by assumption) ?_
  rotate_left
  ·(intro w hSw; (try dsimp only at hSw); go_simp; (try with_reducible rfl))
  try simp only [Act.put, List.getElem_toArray, List.getElem_cons_succ, List.getElem_cons_zero, List.setIfInBounds_toArray, List.set_cons_zero, List.set_cons_succ]
  refine wpAnyH_ready (rs := [8]) (by kernel_rfl) (by simp) ?_
  refine AllReadyH.cons rfl (fun K hK => ?_) AllReadyH.nil
  go_simp
  (go_at_call 80; refine (kb c x.1 L.at_ _ (HCI.out _ (HTW.out.below (al (aJ _ _)))) HV.out HXR.out a1 a2).mono ?_; rintro e W2 ⟨rfl, hb⟩; have HB2 := aB (bdr hb); clear hb)
  go_wp2_with fail
  refine hK.out _ _ (HSP.out _ HB2.out) (fun hHeld => ?_)
  clear hK K
  try simp only [Act.put, List.getElem_toArray, List.getElem_cons_succ, List.getElem_cons_zero, List.setIfInBounds_toArray, List.set_cons_zero, List.set_cons_succ]
  refine wpAnyH_take (i := 9) (v := ?_) rfl (by kernel_rfl) (by kernel_rfl) (by kernel_rfl) (fun _ _ _ h => h) (Or.inl ⟨by kernel_rfl, ?_⟩) (by assumption) ?_
  rotate_left
  ·(intro w hSw; (try dsimp only at hSw); go_simp; (try with_reducible rfl))
  try simp only [Act.put, List.getElem_toArray, List.getElem_cons_succ, List.getElem_cons_zero, List.setIfInBounds_toArray, List.set_cons_zero, List.set_cons_succ]
  refine wpAnyH_done (by kernel_rfl) ?_ _
  clear hHeld
  have HT2 := aB (HTW.out.below HB2.out)
  have HBX := aB (HB.out.trans (HB2.out.mono HB.out.size))
  have HKO : Hid (KeepsOthers W W2) := KeepsOthers.of_grownBy (cT HB2.out none) (fun j o e _ => by cases e)
  have HKB : Hid (Below w4.heap.size W W2) := HB2.out.mono HB.out.size
  have k2 : W2.cell? (aV (w.heap.size + 1 + 1) 0) = some (iV t) := aA 0 HT2.out.p2
  by_cases g1 : be c x.1 L.at_ < t
  ·have HI : Hid (∀ y ∈ gO (pre ++ [x]), be c y L.at_ < t) := fun y hy => by
    rw [f9, List.mem_append, aR] at hy
    rcases hy with hy | rfl
    ·exact HALL.out y hy
    ·exact g1
   gi_wp2
   exact ⟨HKO.out, HKB.out, HI.out, HBX.out⟩
  have HG1 : Hid (t <= be c x.1 L.at_) := by show _ <= _; omega
  by_cases g2 : t + 86400 <= be c x.1 L.at_
  ·have HEX : Hid (TfEx w4 c L.at_ t (pre ++ [x]) W2) := ⟨x, pre, rfl, HALL.out, g2, HBX.out⟩
   gi_wp2
   exact ⟨HKO.out, .inr ⟨rfl, HEX.out⟩⟩
  have HG2 : Hid (be c x.1 L.at_ < t + 86400) := by show _ < _; omega
  have r3 : W2.cell? (aV (w.heap.size + 1 + 1 + 1) 0) = some (iV 0) := aA 0 HT2.out.p3
  have r4 : W2.cell? (aV (w.heap.size + 1 + 1 + 1 + 1) 0) = some (.bool false) := aA 0 HT2.out.p4
  have f3 := ac HT2.out.p3 0
  have f4 := ac HT2.out.p4 0
  gi_wp2
  have q3 := bU (bE HT2.out.p3 0 (iV (be c x.1 L.at_))) (C := w.heap.size + 1 + 1 + 1 + 1) (by omega) 0 (.bool true)
  have q4 := bE (bU HT2.out.p4 (C := w.heap.size + 1 + 1 + 1) (by omega) 0 (iV (be c x.1 L.at_))) 0 (.bool true)
  exact ⟨HKO.out.trans ((KeepsOthers.setCell _ _ _).trans (KeepsOthers.setCell _ _ _)), .inl ⟨rfl, x, pre, rfl, HALL.out, HG1.out, HG2.out, aA 0 q3, aA 0 q4, (HT2.out.bel.setCell (p := (aV (w.heap.size + 1 + 1 + 1) 0)) (by show _ <= _; simp; omega) _).setCell (p := (aV (w.heap.size + 1 + 1 + 1 + 1) 0)) (by show _ <= _; simp; omega) _⟩⟩
 case done =>
  rintro D xs W hD hS ⟨hall, hb⟩ hK
  have HN : Hid (ak c L.at_ t = (0, 20)) := py a1 a2 fun y y1 y2 yw => .inl (hall y (by
   rw [show gO xs = bY c (bc c t + 60 + 1 - bc c t).toNat (bc c t) from hS]
   exact (gM c _ _ _).2 ⟨y1, by omega, yw⟩))
  have HTW := aB (HT4.out.below hb)
  have HD := aB hK
  have r3 : W.cell? (aV (w.heap.size + 1 + 1 + 1) 0) = some (iV 0) := aA 0 HTW.out.p3
  have r4 : W.cell? (aV (w.heap.size + 1 + 1 + 1 + 1) 0) = some (.bool false) := aA 0 HTW.out.p4
  have f3 := ac HTW.out.p3 0
  have f4 := ac HTW.out.p4 0
  clear hS hK hall hb
  go_wp2
  have q3 := aA 0 (bU (bE HTW.out.p3 0 (iV 0)) (C := w.heap.size + 1 + 1 + 1 + 1) (by omega) 0 (.bool false))
  have q4 := aA 0 (bE (bU HTW.out.p4 (C := w.heap.size + 1 + 1 + 1) (by omega) 0 (iV 0)) 0 (.bool false))
  have hbb := (HTW.out.bel.setCell (p := (aV (w.heap.size + 1 + 1 + 1) 0)) (by show _ <= _; simp; omega) (iV 0)).setCell (p := (aV (w.heap.size + 1 + 1 + 1 + 1) 0)) (by show _ <= _; simp; omega) (.bool false)
  have hK' := ((KeepsOthers.setCell W (aV (w.heap.size + 1 + 1 + 1) 0) (.int .i64 0)).trans (KeepsOthers.setCell _ (aV (w.heap.size + 1 + 1 + 1 + 1) 0) (.bool false))).same D _ HD.out rfl
  refine ⟨by simp, .inl ⟨_, _, rfl, run_takeDeferred hK', ?_⟩⟩
  have k3 := cell_kept q3 (grownBy_putObj' _ D (.deferred none)) (fun r e => by cases e; exact ⟨_, hK', rfl⟩)
  have k4 := cell_kept q4 (grownBy_putObj' _ D (.deferred none)) (fun r e => by cases e; exact ⟨_, hK', rfl⟩)
  refine ⟨.tuple #[iV 0, .bool false], by simp [results, Tryz.results45, go_sem, k3, k4], ?_, hbb.grown (grownBy_putObj' _ D (.deferred none)) hbb.size (fun k e => by cases e; omega)⟩
  rw [HN.out]
  rfl
 case stop =>
  rintro D cd pre W hD hS hx hK
  obtain ⟨x0, p0, tl, hp0, hS⟩ := hS
  rcases hx with ⟨rfl, x, p', rfl, hall, g1, g2, q3, q4, hb⟩ | ⟨rfl, x, p', rfl, hall, g1, hb⟩
  ·have HN : Hid (ak c L.at_ t = (be c x.1 L.at_, 0)) := uX a1 a2 x.2.1 g1 g2 fun y y1 y2 yw => hall y (pN (x := x.1) (by rw [hS, f9]) y1 y2 yw)
   have HB := aB hb; clear hb
   have HD := aB hK
   have HQ3 := aB q3
   have HQ4 := aB q4
   clear hS hK hall g1 g2 hp0 q3 q4
   gi_wp2
   refine ⟨by simp, .inl ⟨_, _, rfl, run_takeDeferred HD.out, ?_⟩⟩
   have k3 := cell_kept HQ3.out (grownBy_putObj' _ D (.deferred none)) (fun r e => by cases e; exact ⟨_, HD.out, rfl⟩)
   have k4 := cell_kept HQ4.out (grownBy_putObj' _ D (.deferred none)) (fun r e => by cases e; exact ⟨_, HD.out, rfl⟩)
   refine ⟨.tuple #[iV (be c x.1 L.at_), .bool true], by simp [results, Tryz.results45, go_sem, k3, k4], ?_, HB.out.grown (grownBy_putObj' _ D (.deferred none)) HB.out.size (fun k e => by cases e; omega)⟩
   rw [HN.out]
   rfl
  ·have HN : Hid (ak c L.at_ t = (0, 20)) := py a1 a2 fun y y1 y2 yw => by
    rcases Int.lt_or_le y x.1 with h | h
    ·exact .inl (hall y (pN (x := x.1) (by rw [hS, f9]) y1 h yw))
    ·exact .inr (by unfold be at g1 ⊢; omega)
   have HTW := aB (HT4.out.below hb)
   have HD := aB hK
   have r3 : W.cell? (aV (w.heap.size + 1 + 1 + 1) 0) = some (iV 0) := aA 0 HTW.out.p3
   have r4 : W.cell? (aV (w.heap.size + 1 + 1 + 1 + 1) 0) = some (.bool false) := aA 0 HTW.out.p4
   have f3 := ac HTW.out.p3 0
   have f4 := ac HTW.out.p4 0
   clear hS hK hall g1 hp0 hb
   gi_wp2
   go_wp2
   have q3 := aA 0 (bU (bE HTW.out.p3 0 (iV 0)) (C := w.heap.size + 1 + 1 + 1 + 1) (by omega) 0 (.bool false))
   have q4 := aA 0 (bE (bU HTW.out.p4 (C := w.heap.size + 1 + 1 + 1) (by omega) 0 (iV 0)) 0 (.bool false))
   have hbb := (HTW.out.bel.setCell (p := (aV (w.heap.size + 1 + 1 + 1) 0)) (by show _ <= _; simp; omega) (iV 0)).setCell (p := (aV (w.heap.size + 1 + 1 + 1 + 1) 0)) (by show _ <= _; simp; omega) (.bool false)
   have hK' := ((KeepsOthers.setCell W (aV (w.heap.size + 1 + 1 + 1) 0) (.int .i64 0)).trans (KeepsOthers.setCell _ (aV (w.heap.size + 1 + 1 + 1 + 1) 0) (.bool false))).same D _ HD.out rfl
   refine ⟨by simp, .inl ⟨_, _, rfl, run_takeDeferred hK', ?_⟩⟩
   have k3 := cell_kept q3 (grownBy_putObj' _ D (.deferred none)) (fun r e => by cases e; exact ⟨_, hK', rfl⟩)
   have k4 := cell_kept q4 (grownBy_putObj' _ D (.deferred none)) (fun r e => by cases e; exact ⟨_, hK', rfl⟩)
   refine ⟨.tuple #[iV 0, .bool false], by simp [results, Tryz.results45, go_sem, k3, k4], ?_, hbb.grown (grownBy_putObj' _ D (.deferred none)) hbb.size (fun k e => by cases e; omega)⟩
   rw [HN.out]
   rfl
end
end Go.Proofs.YtpeaiphdkgifaaaGreatDoor
