/- The walk over proceed. -/
import Derived.Test.YtpeaiphdkgifaaaGreatDoorVbb
import Derived.Sort.CutIn
import Derived.Lib.ItoaLen
namespace Go.Proofs.YtpeaiphdkgifaaaGreatDoor
open Go.RowKit
set_option maxHeartbeats 20000000
set_option maxRecDepth 100000
section
attribute [local go_sem] Oper.semAt_some ba_get rU uK
theorem eo (n : Int) (h : I64 n) : (Lib.itoa n).length <= 100 := by
 have := Lib.itoa_length_le n h.1 h.2
 omega
theorem stTInf : (Tryz.prog.info? 50).map (fun i => (i.zero, i.size, i.bytes)) = some (some (.agg #[iV 0, iV 0, iV 0, iV 0]), 4, 32) := by kernel_rfl
theorem vd : (Tryz.prog.info? 9).map (fun i => (i.zero, i.size, i.bytes)) = some (some (.string ⟨#[]⟩), 1, 16) := by kernel_rfl
theorem pL {W : World} {X : Nat} {b : Bool} (h : W.heap[X]? = some (.cells #[.bool b] 4 (0, 0))) (tmps : Array Value) (h2 : tmps.getD 4 undef = .pointer (some (aV X 0))) :
  (results Tryz.f42 tmps).run Tryz.prog W = .ok (.bool b) W := by
 have e1 : (loadVar 4 (aV X 0)).run Tryz.prog W = .ok (.bool b) W := by
  have := cell_of_row W _ 0 _ _ _ h
  simp [loadVar, go_sem, this]
 have h2' : tmps[4]?.getD undef = .pointer (some (aV X 0)) := by simpa using h2
 simp [results, Tryz.results42, asAddr, h2', e1]
def ProcR (w : World) (n : Net) (nx : List NsC) (nxA : Option Addr) (nxC : Nat) (h : Hst) (A : HsA) (before : Int) (e : Ending) (W' : World) : Prop :=
 (∃ l, cK n nx h.canc before h.items h.items = some l /\ e = .returned (.bool true) /\ ∃ A', WdH w W' n nx nxA nxC { h with items := l } A' /\ A'.core = A.core) ∨
 (cK n nx h.canc before h.items h.items = none /\ e = .returned (.bool false) /\ Below w.heap.size w W')
theorem ll (w W : World) (n : Net) (nx : List NsC) (nxA : Option Addr) (nxC : Nat) (h : Hst) (A : HsA) (before : Int) (hS : bM n) (hF : bi n nx) (H : WdH w W n nx nxA nxC h A)
  (hl : h.items.length <= 100) (hok : ∀ x ∈ h.items, fL n x /\ dF n nx h.canc (bw h.items x) x /\ jl n h x) (hpw : PW w) :
  Calls Tryz.prog 42 #[.pointer (some (aV A.hb 0)), iV before] W (ProcR w n nx nxA nxC h A before) := by
 obtain ⟨i0, hi0, hz0, hz1, hz2⟩ := info_parts stTInf
 obtain ⟨s0, hs0, hsa, hsb, hsc⟩ := info_parts vd
 refine jg Tryz.func42 rfl ?_
 simp only [Tryz.ntmps42, List.size_toArray, List.length_cons, List.length_nil, Nat.reduceAdd, Nat.reduceSub, Array.replicate_succ, Array.replicate_zero, List.push_toArray, List.append_toArray, List.nil_append, List.cons_append]
 have HPW := aB hpw
 have HOK := aB hok
 have HF := aB hF
 have HL := aB hl
 have HG : Hid (cY n) := hS.1.good
 have hX : w.heap.size <= W.heap.size := H.bel.size
 have HX0 := aB hX
 have HFA : Hid (∀ b ∈ A.all, b < W.heap.size) := fun b hb => (H.hs.lt b hb).2
 have hB0 : Below W.heap.size W ((W.alloc (.cells #[.pointer (some (aV A.hb 0))] 91)).alloc (.cells #[.bool false] 4)) := bt (ba _ _) (ba _ _)
 have HW0 := aB (H.below hB0)
 have q0 : ((W.alloc (.cells #[.pointer (some (aV A.hb 0))] 91)).alloc (.cells #[.bool false] 4)).heap[W.heap.size]? = some (.cells #[.pointer (some (aV A.hb 0))] 91 (0, 0)) := (aK _ _ _ (by simp)).trans (aC _ _)
 have q1 := aC (W.alloc (.cells #[.pointer (some (aV A.hb 0))] 91)) (.cells #[.bool false] 4)
 rw [aT] at q1
 have hsz : ((W.alloc (.cells #[.pointer (some (aV A.hb 0))] 91)).alloc (.cells #[.bool false] 4)).heap.size = W.heap.size + 1 + 1 := by simp
 have HQ0 := aB q0
 have HQ1 := aB q1
 clear q0 q1 hB0 hX hpw hok hF hl H
 refine cN (dy ?_)
 go_wp2
 refine cN ?_
 refine cN (dy ?_)
 change Code.wp _ _ _ _ ((W.alloc (.cells #[.pointer (some (aV A.hb 0))] 91)).alloc (.cells #[.bool false] 4))
 generalize ((W.alloc (.cells #[.pointer (some (aV A.hb 0))] 91)).alloc (.cells #[.bool false] 4)) = W0 at *
 have c0 : W0.cell? (aV W.heap.size 0) = some (.pointer (some (aV A.hb 0))) := aA 0 HQ0.out
 generalize W.heap.size = X at *
 go_wp2_with fail
 refine (mP A.hb before _).mono ?_
 rintro e w2 ⟨rfl, q2, q3, hb⟩
 rw [hsz] at q2 q3 ⊢
 have hz2 : X + 4 <= w2.heap.size := by have := aa q3; omega
 have HZ := aB hz2
 obtain ⟨Z, hZ⟩ : ∃ Z, w2.heap.size = Z := ⟨_, rfl⟩
 have HZE := aB hZ
 rw [hZ] at HZ
 have HS0 : Hid (PrS w X Z n nx nxA nxC h A before 0 21 w2 h.items A) := ⟨HW0.out.below hb, gu.start (fun x hx => (HOK.out x hx).1) (fun x hx => (HOK.out x hx).2.1), rfl, rfl, rfl, rfl, fun b hb => .inl (HFA.out b hb), (hb.block _ (aa HQ0.out)).trans HQ0.out, (hb.block _ (aa HQ1.out)).trans HQ1.out, q2, q3⟩
 have HDS : Hid (∀ y ∈ h.items, 0 <= bw h.items y /\ bw h.items y < n.offs.length) := fun y hy => (HOK.out y hy).2.2.ds
 clear q2 q3 hb hz2 hZ hsz c0
 go_wp2_with fail
 refine jM ?_
 have hlen : (A.its.map (·.b)).length = h.items.length := by rw [List.length_map]; exact HS0.out.wd.hs.len
 have HLEN := aB hlen
 clear hlen
 have hseq := dep_seq A.hb (X + 1 + 1) (X + 1 + 1 + 1) before A.iB A.iC (A.its.map (·.b)) (by rw [HLEN.out]; exact HL.out)
 have HSEQ := aB hseq
 clear hseq
 have HIR : Hid (∀ k f V its A', PrS w X Z n nx nxA nxC h A before k f V its A' -> ∀ x ∈ its, I64 x.line) := fun k f V its A' hP x hx => by
  obtain ⟨h1, h2⟩ := hP.pri.rng HG.out HF.out HDS.out hx
  by_cases h0 : 0 <= x.line
  ·have h3 := (h2 h0).1
   have h4 := hP.wd.net.lens.2.2.2.2.1
   unfold maxLen at h4
   unfold I64
   omega
  ·unfold I64
   omega
 refine wp_seqD (gf := 147) (lb := #[fH (X + 1 + 1), fH (X + 1 + 1 + 1)]) (by rfl) (fun _ _ => rfl) HSEQ.out (fun _ => rfl)
  (fun k f V => ∃ its A', PrS w X Z n nx nxA nxC h A before k f V its A')
  (fun V => cK n nx h.canc before h.items h.items = none /\ V.heap[X + 1]? = some (.cells #[.bool false] 4 (0, 0)) /\ Below w.heap.size w V)
  (fun k f V V' r ⟨its, A', hP⟩ hg hr => ⟨its, A', hP.grown hg (by rw [<- HZE.out]; exact hr) HZ.out HX0.out⟩)
  (fun V V' r ⟨h1, h2, h3⟩ hg hr => ⟨h1, (hg.block _ (aa h2) (fun e => by have := Option.some.inj e; have := HZ.out; have := HZE.out; omega)).trans h2, h3.grown hg h3.size (fun x hx => by cases hx; have := HX0.out; have := HZ.out; have := HZE.out; omega)⟩)
  (fun k f V V' ⟨its, A', hP⟩ hb => ⟨its, A', hP.below hb⟩)
  (fun k f V ⟨its, A', hP⟩ => hP.view (HIR.out k f V its A' hP))
  ?gt ?next 21 ⟨_, _, HS0.out⟩
  (fun k => { tmps := #[.pointer (some (aV A.hb 0)), iV before, .pointer (some (aV X 0)), undef, .pointer (some (aV (X + 1) 0)), Value.pointer (some ⟨(A.its.map (·.b)).getD k 0, 0, none⟩), undef, undef, .pointer (some (aV A.hb 0)), iV before, .func (.func 147) #[] #[fH (X + 1 + 1), fH (X + 1 + 1 + 1)], Value.pointer (some ⟨(A.its.map (·.b)).getD k 0, 0, none⟩), undef, undef, undef, undef, undef, undef, undef, undef, undef, undef, undef, undef, undef, undef, undef, undef, undef, undef, undef, undef, undef, undef, undef, undef, undef, undef, undef, undef, undef, undef, undef, undef, undef, undef, undef, undef, undef, undef, undef, undef, undef, undef, undef, undef, undef, undef, undef, undef, undef, undef, undef, undef, undef, undef, undef, undef, undef, undef, undef, undef, undef, undef, undef, undef, undef, undef, undef, undef, undef, undef, undef, undef, undef, undef, undef, undef, undef, undef, undef, undef, undef, undef, undef, undef, undef], defers := [] }) ?assign ?body ?stop ?done
 case gt =>
  rintro k V V' r ⟨b, ln, lv, h1, h2, h3, h4, h5⟩ hg hr hv
  have hne : b ≠ r := fun e => by
   have hm := aF h1
   obtain ⟨a, ha, rfl⟩ := List.mem_map.1 hm
   have := HFA.out a.b (aP _ (List.mem_flatMap.2 ⟨a, ha, by simp [ItA.blks]⟩))
   have := HZ.out
   have := HZE.out
   omega
  exact ⟨b, ln, lv, h1, (World.cell?_of_block (hg.block _ (aM _ _ h2) (fun e => hne (Option.some.inj e)))).trans h2, (World.cell?_of_block (hg.block _ (aM _ _ h3) (fun e => hne (Option.some.inj e)))).trans h3, h4, h5⟩
 case next =>
  rintro k f V hk ⟨its, A', hP⟩ hng
  rw [HLEN.out] at hk
  obtain ⟨it, a, h1, h2, h3, h4, h5⟩ := hP.at_ hk
  refine ⟨21, its, A', ⟨hP.wd, hP.pri.next h1 (fun hgo => hng ?_), hP.hb, hP.iB, hP.iC, hP.bs, hP.far, hP.p0, hP.p1, hP.p2, hP.p3⟩⟩
  obtain ⟨lv, l1, l2, l3⟩ := h4.cells
  exact ⟨a.b, it.line, lv, h3, aA 11 l3, aA 12 l3, hgo.1, by rw [l2 hgo.1]; exact hgo.2⟩
 case assign =>
  intro l k W' K hK
  generalize (A.its.map (·.b)).getD k 0 = q at *
  gi_wp2
  exact hK
 case done =>
  rintro V f ⟨its, A', hP⟩ hd
  rw [HLEN.out] at hP
  have c1 : V.cell? (aV (X + 1) 0) = some (.bool false) := aA 0 hP.p1
  have f1 : V.frozen? (aV (X + 1) 0) = false := ac hP.p1 0
  have HP := aB hP
  have HD := aB hd
  clear hP hd
  show j9 _ _ _ _ _ _
  refine cN (dy ?_)
  go_wp2
  refine dy ?_
  go_wp2
  have hz := HZ.out
  have hze := HZE.out
  have hd3 : (V.setCell (aV (X + 1) 0) (.bool true)).heap[w2.heap.size]? = some (.deferred (some [])) := (Below.heap_setCell _ _ _ _ (by show w2.heap.size ≠ X + 1; omega)).trans HD.out
  refine ⟨by simp, .inl ⟨_, _, rfl, run_takeDeferred hd3, ?_⟩⟩
  have h5 : ((V.setCell (aV (X + 1) 0) (.bool true)).putObj w2.heap.size (.deferred none)).heap[X + 1]? = some (.cells #[.bool true] 4 (0, 0)) := (World.putObj_heap_other (by omega)).trans (bE HP.out.p1 0 _)
  refine ⟨_, pL h5 _ rfl, .inl ⟨its, HP.out.pri.fin, rfl, A', ?_, HP.out.hb⟩⟩
  have w3 : WdH w (V.setCell (aV (X + 1) 0) (.bool true)) n nx nxA nxC { h with items := its } A' := HP.out.wd.chg (S := [X + 1]) (dW 0 (.bool true) [X + 1] (by simp)) (fun b hb h2 => by
   have := HP.out.far b hb
   have e := aR.1 h2
   omega) (fun b hb => by
   have := HX0.out
   have e := aR.1 hb
   omega)
  exact w3.chg (S := [w2.heap.size]) (bz.of_grown (grownBy_putObj' _ w2.heap.size (.deferred none)) (fun x hx => by cases hx; simp)) (fun b hb h2 => by
   have := HP.out.far b hb
   have e := aR.1 h2
   omega) (fun b hb => by
   have := HX0.out
   have e := aR.1 hb
   omega)
 case stop =>
  rintro V ⟨h1, h2, h3⟩ hd
  have hz := HZ.out
  have hze := HZE.out
  refine wpIn_ret ?_
  refine ⟨by simp, .inl ⟨_, _, rfl, run_takeDeferred hd, ?_⟩⟩
  have h5 : (V.putObj w2.heap.size (.deferred none)).heap[X + 1]? = some (.cells #[.bool false] 4 (0, 0)) := (World.putObj_heap_other (by omega)).trans h2
  refine ⟨_, pL h5 _ rfl, .inr ⟨h1, rfl, h3.grown (grownBy_putObj' _ w2.heap.size (.deferred none)) h3.size (fun x hx => by cases hx; have := HX0.out; omega)⟩⟩
 case body =>
  rintro l k f V hk ⟨its, A', hP⟩ hgo hsz
  rw [HLEN.out] at hk
  obtain ⟨it, a, h1, h2, h3, h4, h5⟩ := hP.at_ hk
  have hbq : (A.its.map (·.b)).getD k 0 = a.b := by rw [List.getD_eq_getElem?_getD, h3]; rfl
  obtain ⟨lv, l1, l2, l3⟩ := h4.cells
  have hgoes : 0 <= it.line /\ it.leave < before := by
   obtain ⟨b, ln, lv', g1, g2, g3, g4, g5⟩ := hgo
   rw [h3] at g1
   cases g1
   have e1 : V.cell? (aV a.b 11) = some (iV it.line) := aA 11 l3
   have e2 : V.cell? (aV a.b 12) = some (iV lv) := aA 12 l3
   rw [e1] at g2
   rw [e2] at g3
   cases g2
   cases g3
   exact ⟨g4, by rw [<- l2 g4]; exact g5⟩
  rw [hbq]
  have HP := aB hP
  have HIT := aB (⟨h1, h2, h4, h5⟩ : its[k]? = some it /\ A'.its[k]? = some a /\ cD w.heap.size V it a /\ a.blks.Nodup)
  have HGO := aB hgoes
  have HSZ := aB hsz
  have HK := aB hk
  have c5 : V.cell? (aV a.b 5) = some (.slice (some (aV a.sB 0)) it.stops.length a.sC) := aA 5 l3
  have hlv := l2 hgoes.1
  have HROW := aB l3
  have HLV := aB hlv
  clear hP h1 h2 h3 h4 h5 hbq l1 l2 l3 hgoes hsz hgo hlv hk
  refine wpIn_block ?_
  by_cases h20 : 20 <= it.stops.length
  case pos =>
   have e20 : (20 : Int) <= (it.stops.length : Int) := by omega
   have c1 : V.cell? (aV (X + 1) 0) = some (.bool false) := aA 0 HP.out.p1
   have f1 : V.frozen? (aV (X + 1) 0) = false := ac HP.out.p1 0
   have hno := HP.out.pri.stop HIT.out.1 HGO.out h20
   have HNO := aB hno
   clear h20 hno
   gi_wp2
   have hz := HZ.out
   have hze := HZE.out
   refine ⟨fun b hb => Below.heap_setCell _ _ _ _ (by show b ≠ X + 1; omega), HNO.out, bE HP.out.p1 0 _, HP.out.wd.bel.setCell (p := (aV (X + 1) 0)) (by show w.heap.size <= X + 1; have := HX0.out; omega) _⟩
  have e20 : ¬ (20 : Int) <= (it.stops.length : Int) := by omega
  have H20 := aB h20
  clear h20
  gi_upto_region 5 with fail
  clear c5 e20
  obtain ⟨li, hli⟩ := aN HGO.out.1
  have hrg := (HP.out.pri.rng HG.out HF.out HDS.out (aF HIT.out.1)).2 HGO.out.1
  have hli2 : li < n.lins.length := by have := hrg.1; omega
  obtain ⟨-, lb, lo, hlA, -, y0, yj⟩ := ay bT HP.out.wd.net.lins (bC hli2) (by have h4 := HP.out.wd.net.lens.2.2.2.2.1; unfold maxLen at h4; omega)
  have HLE := aB hli
  have HRG := aB hrg
  have HLI := aB hli2
  have hli64 : I64 (li : Int) := by have := HP.out.wd.net.lens.2.2.2.2.1; unfold maxLen at this; unfold I64; omega
  have HL64 := aB hli64
  have HSL : Hid (it.seals.length <= 100) := by have := ms (HP.out.pri.ok _ (aF HIT.out.1)).1.path; have := H20.out; show _ <= _; omega
  have i1 : (0 : Int) <= (li : Int) := by omega
  have i2 : (li : Int) < (n.lins.length : Int) := by omega
  generalize hLN : af n li = ln at *
  have HLN := aB hLN
  have HST : Hid (∀ W', Below V.heap.size V W' -> (W'.cell? (aV X 0) = some (.pointer (some (aV A.hb 0))) /\ W'.cell? (aV A.hb 4) = some (.slice (some (aV lb lo)) n.lins.length n.linC) /\ W'.cell? (aV a.b 11) = some (iV li) /\ W'.cell? (aV lb (lo + li * 6)) = some (sV ln.name) /\ W'.cell? (aV lb (lo + li * 6 + 1)) = some (iV ln.frm) /\ W'.cell? (aV lb (lo + li * 6 + 2)) = some (iV ln.to) /\ W'.cell? (aV lb (lo + li * 6 + 3)) = some (iV ln.at_) /\ W'.cell? (aV lb (lo + li * 6 + 4)) = some (iV ln.travel) /\ W'.cell? (aV lb (lo + li * 6 + 5)) = some (iV ln.load))) := fun W' hb =>
   ⟨ag hb (aA 0 HP.out.p0), ag hb (by have := HP.out.wd.hs.cell (i := 4) rfl; rw [show A'.hb = A.hb from congrArg (·.1) HP.out.hb, hlA] at this; exact this), ag hb (by have := cell_of_row V a.b 11 _ _ _ HROW.out; rw [this, <- hli]; rfl), ag hb (y0 _ rfl), ag hb (yj 1 _ rfl), ag hb (yj 2 _ rfl), ag hb (yj 3 _ rfl), ag hb (yj 4 _ rfl), ag hb (yj 5 _ rfl)⟩
  have HD0 : Hid (Below V.heap.size V V.drew) := al (aJ _ _)
  clear hli hrg hli2 hlA y0 yj hLN hli64
  refine dT 12 (fun w' => w'.cell? (aV X 0) = some (.pointer (some (aV A.hb 0))) /\ w'.cell? (aV A.hb 4) = some (.slice (some (aV lb lo)) n.lins.length n.linC) /\ w'.cell? (aV a.b 11) = some (iV li) /\ w'.cell? (aV lb (lo + li * 6)) = some (sV ln.name) /\ w'.cell? (aV lb (lo + li * 6 + 1)) = some (iV ln.frm) /\ w'.cell? (aV lb (lo + li * 6 + 2)) = some (iV ln.to) /\ w'.cell? (aV lb (lo + li * 6 + 3)) = some (iV ln.at_) /\ w'.cell? (aV lb (lo + li * 6 + 4)) = some (iV ln.travel) /\ w'.cell? (aV lb (lo + li * 6 + 5)) = some (iV ln.load)) (by kernel_rfl) (by kernel_rfl) (fun ⟨_, _, h⟩ => h) (HST.out _ HD0.out) (fun hHeld => ?_)
  refine taL 0 ?_
  try simp only [LY]
  refine puL 1 ?_
  try simp only [LY]
  refine puL 2 ?_
  try simp only [LY]
  refine puL 3 ?_
  try simp only [LY]
  refine taL 4 ?_
  try simp only [LY]
  refine puL 5 ?_
  try simp only [LY]
  refine puL 6 ?_
  try simp only [LY]
  refine puL 7 ?_
  try simp only [LY]
  refine taL 8 ?_
  try simp only [LY]
  refine puL 9 ?_
  try simp only [LY]
  refine taL 10 ?_
  try simp only [LY]
  refine reL 11 (fun K hK => ?_)
  go_simp
  refine hK.out _ _ (HST.out _ (HD0.out.alloc HD0.out.size _)) (fun hHeld => ?_)
  clear hK K
  try simp only [LY]
  refine bZ (by kernel_rfl) rfl (fun K hK => ?_)
  go_simp
  refine hK.out _ _ ?_
  clear hK K
  try simp only [LY]
  refine wpAny_done (by kernel_rfl) ?_ _
  have hb5 : Below V.heap.size V (V.alloc (.cells #[sV ln.name, iV ln.frm, iV ln.to, iV ln.at_, iV ln.travel, iV ln.load] 52)).drew := al (ba V _)
  have hln5 : (V.alloc (.cells #[sV ln.name, iV ln.frm, iV ln.to, iV ln.at_, iV ln.travel, iV ln.load] 52)).drew.heap[V.heap.size]? = some (.cells #[sV ln.name, iV ln.frm, iV ln.to, iV ln.at_, iV ln.travel, iV ln.load] 52 (0, 0)) := aC V _
  change Exit.then _ _ _ _ (V.alloc (.cells #[sV ln.name, iV ln.frm, iV ln.to, iV ln.at_, iV ln.travel, iV ln.load] 52)).drew
  generalize (V.alloc (.cells #[sV ln.name, iV ln.frm, iV ln.to, iV ln.at_, iV ln.travel, iV ln.load] 52)).drew = V5 at *
  have HP5 := aB (HP.out.below hb5)
  have HB5 := aB hb5
  have HI5 := aB (HIT.out.2.2.1.below hb5)
  have HR5 := aB ((hb5.block _ (aa HROW.out)).trans HROW.out)
  have HL5 := aB hln5
  obtain ⟨T, hT⟩ : ∃ T, V.heap.size = T := ⟨_, rfl⟩
  have HTB : Hid (∀ b ∈ A'.all, b < T) := fun b hb => by rw [<- hT]; exact (HP.out.wd.hs.lt b hb).2
  have HXV : Hid (X + 4 <= T) := by have := aa HP.out.p3; show _ <= _; omega
  have HTE := aB hT
  rw [hT] at HL5 ⊢
  clear hb5 hln5 HST HD0 i1 i2 hHeld hT
  have hst1 : 1 <= it.stops.length := aL.2 (fP (HP.out.pri.ok _ (aF HIT.out.1)).1.path)
  have HST1 := aB hst1
  clear hst1
  gi_wp2_with (refine ⟨trivial, ?_⟩; gi_at_call 100; refine (CallsIn.inRound l (callsIn_wide.2 (qb w.heap.size it a _ HI5.out HST1.out (by have := H20.out; omega)))).mono ?_; rintro e V6 ⟨rfl, hb⟩; have HB6 := aB hb; clear hb)
  have hk1 : k < its.length := (aE.1 HIT.out.1).1
  have hk2 : k < A'.its.length := (aE.1 HIT.out.2.1).1
  have HKK := aB (And.intro hk1 hk2)
  have HFR : Hid (∀ b ∈ a.blks, b < T /\ (b < X ∨ X + 4 <= b)) := fun b hb => by
   have hm : b ∈ A'.all := aP _ (List.mem_flatMap.2 ⟨a, aF HIT.out.2.1, hb⟩)
   have h1 := HTB.out b hm
   have h2 := HP.out.far b hm
   have h3 := HZ.out
   exact ⟨h1, by omega⟩
  have M5 : MdS w X T n nx nxA nxC h A before ln k V its A' a V5 it a := ⟨by rw [cO HIT.out.1, cO HIT.out.2.1]; exact HP5.out.wd, HP5.out.p0, HP5.out.p1, HP5.out.p2, HP5.out.p3, HL5.out, fun b hb => .inl hb, bz.of_below HB5.out, rfl⟩
  have M6 := aB (M5.below HB6.out)
  clear M5 hk1 hk2 HP5 HI5 HR5 HL5
  have HD6 : Hid (Below V6.heap.size V6 V6.drew) := al (aJ _ _)
  have M6d := aB (M6.out.below HD6.out)
  have hin := M6d.out.in_ HKK.out.1 HKK.out.2
  obtain ⟨lv6, -, lq, lR⟩ := hin.1.cells
  have hlast : it.stops[it.stops.length - 1]? = some (aj it.stops) := by
   unfold aj
   rw [List.getLastD_eq_getLast?, List.getLast?_eq_getElem?, aD (by have := HST1.out; omega)]
   rfl
  obtain ⟨-, sb, so, hsA, -, -, hsj⟩ := ay cH (cE hin.1.st) hlast (by omega)
  cases hsA
  have e2 : V6.cell? (aV a.sB ((it.stops.length - 1) * 4 + 2)) = some (iV (aj it.stops).depart) := by have := hsj 2 _ rfl; rwa [Nat.zero_add] at this
  have e3 : V6.cell? (aV a.sB ((it.stops.length - 1) * 4 + 3)) = some (iV (aj it.stops).line) := by have := hsj 3 _ rfl; rwa [Nat.zero_add] at this
  have e4 : (V6.setCell (aV a.sB ((it.stops.length - 1) * 4 + 2)) (iV it.leave)).cell? (aV a.sB ((it.stops.length - 1) * 4 + 3)) = some (iV (aj it.stops).line) := (World.cell?_setCell_other _ _ _ _ (fun e => by have := congrArg Addr.off e; simp at this)).trans e3
  obtain ⟨f2, f3⟩ : V6.frozen? (aV a.sB ((it.stops.length - 1) * 4 + 2)) = false /\ V6.frozen? (aV a.sB ((it.stops.length - 1) * 4 + 3)) = false := by
   rcases hin.1.st.2 with ⟨h9, -⟩ | ⟨g9, c9, cur9, h9, -, hg9, -⟩
   ·cases h9
   ·cases h9
    exact ⟨ac hg9 _, ac hg9 _⟩
  have hS7 : V6.drew.cell? (aV a.b 12) = some (iV it.leave) /\ V6.drew.cell? (aV a.b 11) = some (iV li) := by
   refine ⟨?_, ?_⟩
   ·have := cell_of_row V6.drew a.b 12 _ _ _ lR
    rw [this, <- lq HGO.out.1]
    rfl
   ·have := cell_of_row V6.drew a.b 11 _ _ _ lR
    rw [this, <- HLE.out]
    rfl
  have HIN := aB hin
  have HS7 := aB hS7
  clear hin lq lR hlast hsj hS7
  refine dT 12 (fun w' => w'.cell? (aV a.b 12) = some (iV it.leave) /\ w'.cell? (aV a.b 11) = some (iV li)) (by kernel_rfl) (by kernel_rfl) (fun ⟨_, _, h⟩ => h) (HS7.out) (fun hHeld => ?_)
  refine puL 0 ?_
  try simp only [LY]
  refine puL 1 ?_
  try simp only [LY]
  refine puL 2 ?_
  try simp only [LY]
  refine puL 3 ?_
  try simp only [LY]
  refine puL 4 ?_
  try simp only [LY]
  refine taL 5 ?_
  try simp only [LY]
  refine puL 6 ?_
  try simp only [LY]
  refine puL 7 ?_
  try simp only [LY]
  refine puL 8 ?_
  try simp only [LY]
  refine taL 9 ?_
  try simp only [LY]
  refine puL 10 ?_
  try simp only [LY]
  refine puL 11 ?_
  try simp only [LY]
  refine bZ (by kernel_rfl) rfl (fun K hK => ?_)
  go_simp
  refine hK.out _ _ ?_
  clear hK K
  try simp only [LY]
  refine ta0 13 ?_
  try simp only [LY]
  refine ta0 14 ?_
  try simp only [LY]
  refine wpAny_ready (rs := [15]) (by kernel_rfl) (by simp) ?_
  refine AllReady.cons rfl (fun K hK => ?_) AllReady.nil
  go_simp
  refine hK _ _ ?_
  clear hK K
  try simp only [LY]
  refine wpAny_done (by kernel_rfl) ?_ _
  have s7 := dS.depart HIN.out.1 HIN.out.2 (fun e => by have := HST1.out; rw [e] at this; exact absurd this (by decide))
  rw [show it.line = (li : Int) from HLE.out] at s7
  have M7 := aB (M6d.out.step HKK.out.1 HKK.out.2 s7 rfl HTE.out.symm HXV.out HFR.out)
  change Exit.then _ _ _ _ ((V6.drew.setCell (aV a.sB ((it.stops.length - 1) * 4 + 2)) (iV it.leave)).setCell (aV a.sB ((it.stops.length - 1) * 4 + 3)) (iV li))
  clear s7 e2 e3 e4 f2 f3 hHeld HIN HS7
  generalize ((V6.drew.setCell (aV a.sB ((it.stops.length - 1) * 4 + 2)) (iV it.leave)).setCell (aV a.sB ((it.stops.length - 1) * 4 + 3)) (iV li)) = V7 at *
  gi_upto_region 8 with fail
  have hin := M7.out.in_ HKK.out.1 HKK.out.2
  obtain ⟨lv7, -, lq, lR⟩ := hin.1.cells
  have HR7 := aB lR
  have HIN := aB hin
  have hq7 : lv7 = it.leave := lq HGO.out.1
  subst hq7
  have HST8 : Hid (∀ W' : World, W'.heap[a.b]? = V7.heap[a.b]? -> (W'.cell? (aV a.b 9) = some (.slice a.eA it.seals.length a.eC) /\ W'.cell? (aV a.b 11) = some (iV li) /\ W'.cell? (aV a.b 12) = some (iV it.leave))) := fun W' hb =>
   ⟨aA 9 (hb.trans HR7.out), (aA 11 (hb.trans HR7.out)).trans (by rw [<- HLE.out]; rfl), aA 12 (hb.trans HR7.out)⟩
  have hab : a.b < V7.heap.size := aa lR
  have HAB := aB hab
  have HPW7 : Hid (PW V7) := HPW.out.below M7.out.wd.bel
  have HD7 : Hid (Below V7.heap.size V7 V7.drew) := al (aJ _ _)
  have HI1 : Hid (I64 (li : Int)) := HL64.out
  have HI2 : Hid (I64 it.leave) := by have := HRG.out; show I64 _; unfold I64; omega
  have lz1 : ¬ 9223372036854775807 < 1 + (Lib.itoa (li : Int)).length := by have := eo (li : Int) HL64.out; omega
  have lz2 : ¬ 9223372036854775807 < (Lib.itoa (li : Int)).length + 1 + 1 := by have := eo (li : Int) HL64.out; omega
  have lz3 : ¬ 9223372036854775807 < (Lib.itoa (li : Int)).length + 1 + 1 + (Lib.itoa it.leave).length := by have := eo (li : Int) HL64.out; have := eo it.leave HI2.out; omega
  clear hin lq lR hab
  refine dT 24 (fun w' => w'.cell? (aV a.b 9) = some (.slice a.eA it.seals.length a.eC) /\ w'.cell? (aV a.b 11) = some (iV li) /\ w'.cell? (aV a.b 12) = some (iV it.leave)) (by kernel_rfl) (by kernel_rfl) (fun ⟨_, _, h⟩ => h) (HST8.out _ (HD7.out.block _ HAB.out)) (fun hHeld => ?_)
  refine puL 0 ?_
  try simp only [LY]
  refine puL 1 ?_
  try simp only [LY]
  refine puL 2 ?_
  try simp only [LY]
  refine puL 3 ?_
  try simp only [LY]
  refine puL 4 ?_
  try simp only [LY]
  refine taL 5 ?_
  try simp only [LY]
  refine puL 6 ?_
  try simp only [LY]
  refine puL 7 ?_
  try simp only [LY]
  refine puL 8 ?_
  try simp only [LY]
  refine taL 9 ?_
  try simp only [LY]
  refine puL 13 ?_
  try simp only [LY]
  refine puL 14 ?_
  try simp only [LY]
  refine puL 15 ?_
  try simp only [LY]
  refine taL 16 ?_
  try simp only [LY]
  refine reL 10 (fun K hK => ?_)
  go_simp
  refine (mF (li : Int) _ HI1.out (HPW7.out.below HD7.out)).mono ?_
  rintro e u1 ⟨rfl, hb⟩
  have HU1 := aB (bt HD7.out hb)
  clear hb
  go_wp2_with fail
  refine hK.out _ _ (HST8.out _ (HU1.out.block _ HAB.out)) (fun hHeld => ?_)
  clear hK K
  try simp only [LY]
  refine puL 11 ?_
  try simp only [LY]
  refine puL 12 ?_
  try simp only [LY]
  refine reL 17 (fun K hK => ?_)
  go_simp
  refine (mF it.leave _ HI2.out (HPW7.out.below HU1.out)).mono ?_
  rintro e u2 ⟨rfl, hb⟩
  have HU2 := aB (bt HU1.out hb)
  clear hb
  go_wp2_with fail
  refine hK.out _ _ (HST8.out _ (HU2.out.block _ HAB.out)) (fun hHeld => ?_)
  clear hK K
  try simp only [LY]
  refine puL 18 ?_
  try simp only [LY]
  refine reL 19 (fun K hK => ?_)
  go_simp
  refine hK.out _ _ (HST8.out _ ((aK _ _ _ (Nat.lt_of_lt_of_le HAB.out HU2.out.size)).trans (HU2.out.block _ HAB.out))) (fun hHeld => ?_)
  clear hK K
  try simp only [LY]
  refine reL 20 (fun K hK => ?_)
  have hseal : 67 :: (Lib.itoa (li : Int) ++ 46 :: Lib.itoa it.leave) = cZ li it.leave := rfl
  refine step_append_lies _ (by rfl) (.tmp 51) (.tmp 65) _ (by rfl) w.heap.size 9 s0 _ 1 16 Tryz.underlying23 hs0 hsa hsb hsc rfl (by omega) (.slice a.eA it.seals.length a.eC) it.seals.length (it.seals.map sV) (by rfl) ((aq HIN.out.1.se HU2.out).alloc _) _ 1 1 [sV (67 :: (Lib.itoa (li : Int) ++ 46 :: Lib.itoa it.leave))] (by rfl) rfl (dC (aC _ _)) (fun u hu => by simp at hu; subst hu; rfl) (by omega) (by have := HSL.out; unfold maxLen; omega) (by have := HSL.out; omega) (by have := M7.out.wd.bel.size; have := HU2.out.size; simp; omega) _ rfl ?_
  intro g8 d8 v8 own8 hg8 hat8 hlt8
  have hg9 : (u2.alloc (.cells #[sV (67 :: (Lib.itoa (li : Int) ++ 46 :: Lib.itoa it.leave))] 9)).grownBy v8 (a.eA.map (·.block)) := by
   have h9 : (u2.alloc (.cells #[sV (67 :: (Lib.itoa (li : Int) ++ 46 :: Lib.itoa it.leave))] 9)).grownBy v8 (Value.ownBlock (.slice a.eA it.seals.length a.eC)) := hg8
   rw [dJ] at h9
   exact h9
  have ha9 : a.eA.map (·.block) = some g8 ∨ u2.heap.size <= g8 := by
   have h9 : Value.ownBlock (.slice a.eA it.seals.length a.eC) = some g8 ∨ g8 = (u2.alloc (.cells #[sV (67 :: (Lib.itoa (li : Int) ++ 46 :: Lib.itoa it.leave))] 9)).heap.size := hat8
   rw [dJ, aT] at h9
   rcases h9 with h9 | h9
   ·exact .inl h9
   ·exact .inr (by omega)
  have hc9 : bz (a.eA.map (·.block)).toList u2 v8 := ((bz.refl _ _).trans (bz.of_below (S := []) (ba u2 _)) (fun _ h => by cases h)).grown hg9 (fun x hx => .inl (by rw [hx]; simp))
  have hnb : a.b ∉ (a.eA.map (·.block)).toList := fun hh => ((ji HIN.out.2).2 a.b (by simpa using hh)).1 rfl
  have hkb : v8.heap[a.b]? = V7.heap[a.b]? := (hc9.block _ (Nat.lt_of_lt_of_le HAB.out HU2.out.size) hnb).trans (HU2.out.block _ HAB.out)
  have ow9 : v8.ownsRow w.heap.size 9 1 (.slice (some (aV g8 0)) (it.seals.length + 1) d8) (it.seals.length + 1) (it.seals.map sV ++ [sV (cZ li it.leave)]) := by rw [<- hseal]; exact own8
  have M8 := M7.out.below HU2.out
  have s8 := dS.seals (x := cZ li it.leave) (M8.in_ HKK.out.1 HKK.out.2).1 (M8.in_ HKK.out.1 HKK.out.2).2 ow9 ha9 hc9
  have M9 : Hid (MdS w X T n nx nxA nxC h A before ln k V its A' a (v8.setCell (aV a.b 9) (.slice (some (aV g8 0)) (it.seals.length + 1) d8)) { cF it with seals := it.seals ++ [cZ li it.leave] } { a with eA := some (aV g8 0), eC := d8 }) := M8.step HKK.out.1 HKK.out.2 s8 rfl HTE.out.symm HXV.out HFR.out
  have HKB := aB hkb
  have fz9 : v8.frozen? (aV a.b 9) = false := ac (hkb.trans HR7.out) 9
  clear hseal own8 hg8 hat8 hlt8 hg9 ha9 hc9 hnb hkb ow9 M8 s8
  refine hK.out _ _ (HST8.out _ HKB.out) (fun hHeld => ?_)
  clear hK K
  try simp only [LY]
  refine puL 21 ?_
  try simp only [LY]
  refine puL 22 ?_
  try simp only [LY]
  refine puL 23 ?_
  try simp only [LY]
  refine bZ (by kernel_rfl) rfl (fun K hK => ?_)
  go_simp
  refine hK.out _ _ ?_
  clear hK K
  try simp only [LY]
  refine wpAny_done (by kernel_rfl) ?_ _
  change Exit.then _ _ _ _ (v8.setCell (aV a.b 9) (.slice (some (aV g8 0)) (it.seals.length + 1) d8))
  clear fz9 hHeld lz1 lz2 lz3 HKB HPW7 HD7 HI1 HI2 HU1 HU2 HST8 HR7 HIN HAB
  generalize (v8.setCell (aV a.b 9) (.slice (some (aV g8 0)) (it.seals.length + 1) d8)) = V8 at *
  gi_upto_region 9 with fail
  have hin := M9.out.in_ HKK.out.1 HKK.out.2
  obtain ⟨lv8, -, lq, lR⟩ := hin.1.cells
  have HR8 := aB lR
  have HIN := aB hin
  have hq8 : lv8 = it.leave := lq HGO.out.1
  subst hq8
  have hlen9 : (cF it).stops.length = it.stops.length := jX (fun e => by have := HST1.out; rw [e] at this; exact absurd this (by decide))
  have HL9 := aB hlen9
  have HST9 : Hid (∀ W' : World, W'.heap[a.b]? = V8.heap[a.b]? -> W'.heap[T]? = V8.heap[T]? -> (W'.cell? (aV a.b 5) = some (.slice (some (aV a.sB 0)) it.stops.length a.sC) /\ W'.cell? (aV T 2) = some (iV ln.to) /\ W'.cell? (aV a.b 12) = some (iV it.leave) /\ W'.cell? (aV T 4) = some (iV ln.travel))) := fun W' hb hT =>
   ⟨(aA 5 (hb.trans HR8.out)).trans (by rw [<- HL9.out]; rfl), aA 2 (hT.trans M9.out.pT), aA 12 (hb.trans HR8.out), aA 4 (hT.trans M9.out.pT)⟩
  have HAB := aB (aa lR)
  have HTB8 := aB (aa M9.out.pT)
  have HD8 : Hid (Below V8.heap.size V8 V8.drew) := al (aJ _ _)
  have htv := (HG.out.lin ln (by rw [<- HLN.out]; exact aF (bC HLI.out)))
  have HTV := aB htv
  have e6 : IntKind.i64.wrap (it.leave + ln.travel) = it.leave + ln.travel := aO _ (by have := HRG.out; have := HTV.out; omega)
  have hsr := hin.1.st
  have HSR : Hid (V8.ownsRow w.heap.size 50 4 (.slice (some (aV a.sB 0)) it.stops.length a.sC) it.stops.length ((cF it).stops.flatMap bO)) := by rw [<- hlen9]; exact hsr
  clear hin lq lR hsr htv hlen9
  refine dT 21 (fun w' => w'.cell? (aV a.b 5) = some (.slice (some (aV a.sB 0)) it.stops.length a.sC) /\ w'.cell? (aV T 2) = some (iV ln.to) /\ w'.cell? (aV a.b 12) = some (iV it.leave) /\ w'.cell? (aV T 4) = some (iV ln.travel)) (by kernel_rfl) (by kernel_rfl) (fun ⟨_, _, h⟩ => h) (HST9.out _ rfl rfl) (fun hHeld => ?_)
  refine puL 0 ?_
  try simp only [LY]
  refine puL 1 ?_
  try simp only [LY]
  refine puL 2 ?_
  try simp only [LY]
  refine puL 3 ?_
  try simp only [LY]
  refine puL 4 ?_
  try simp only [LY]
  refine taL 5 ?_
  try simp only [LY]
  refine puL 6 ?_
  try simp only [LY]
  refine taL 7 ?_
  try simp only [LY]
  refine puL 8 ?_
  try simp only [LY]
  refine puL 9 ?_
  try simp only [LY]
  refine puL 10 ?_
  try simp only [LY]
  refine taL 11 ?_
  try simp only [LY]
  refine puL 12 ?_
  try simp only [LY]
  refine taL 13 ?_
  try simp only [LY]
  refine puL 14 ?_
  try simp only [LY]
  refine puL 15 ?_
  try simp only [LY]
  refine reL 16 (fun K hK => ?_)
  go_simp
  refine hK.out _ _ (HST9.out _ (aK _ _ _ HAB.out) (aK _ _ _ HTB8.out)) (fun hHeld => ?_)
  clear hK K
  try simp only [LY]
  refine reL 17 (fun K hK => ?_)
  refine step_append_lies _ (by rfl) (.tmp 75) (.tmp 86) _ (by rfl) w.heap.size 50 i0 _ 4 32 Tryz.underlying45 hi0 hz0 hz1 hz2 rfl (by omega) (.slice (some (aV a.sB 0)) it.stops.length a.sC) it.stops.length ((cF it).stops.flatMap bO) (by rfl) ((HSR.out.drew).alloc _) _ 1 1 (bO ⟨ln.to, it.leave + ln.travel, -1, -1⟩) (by rfl) rfl (fun j u hu => by rw [gr, Nat.zero_add]; exact (aA j (aC _ _)).trans (by simpa [bO] using hu)) (fun u hu => by simp [bO] at hu; rcases hu with rfl | rfl | rfl <;> rfl) (by omega) (by have := H20.out; unfold maxLen; omega) (by have := H20.out; omega) (by have := M9.out.wd.bel.size; simp; omega) _ rfl ?_
  intro g9 d9 v9 own9 hg9 hat9 hlt9
  have ha9 : g9 = a.sB ∨ V8.heap.size <= g9 := by
   have h9 : some a.sB = some g9 ∨ g9 = (V8.drew.alloc (.cells (bO ⟨ln.to, it.leave + ln.travel, -1, -1⟩).toArray 50)).heap.size := hat9
   rw [aT] at h9
   rcases h9 with h9 | h9
   ·exact .inl (Option.some.inj h9).symm
   ·exact .inr (by show V8.heap.size <= g9; rw [h9]; exact Nat.le_succ _)
  have hc9 : bz [a.sB] V8 v9 := (bz.of_below (HD8.out.alloc HD8.out.size _)).trans (bz.of_grown (S := [a.sB]) hg9 (fun x hx => by cases hx; simp)) (fun _ h => .inl h)
  have hnb : a.b ∉ [a.sB] := by simpa using (ji HIN.out.2).1.1
  have hkb : v9.heap[a.b]? = V8.heap[a.b]? := hc9.block _ HAB.out hnb
  have hkt : v9.heap[T]? = V8.heap[T]? := hc9.block _ HTB8.out (by have := HFR.out a.sB (by simp [ItA.blks]); simp; omega)
  have s9 := dS.stops (s := ⟨ln.to, it.leave + ln.travel, -1, -1⟩) (g := g9) (c := d9) HIN.out.1 HIN.out.2 (show v9.ownsRow w.heap.size 50 4 (.slice (some (aV g9 0)) ((cF it).stops.length + 1) d9) ((cF it).stops.length + 1) ((cF it).stops.flatMap bO ++ bO ⟨ln.to, it.leave + ln.travel, -1, -1⟩) by rw [HL9.out]; exact own9) ha9 hc9
  have s10 : dS w.heap.size V8 (v9.setCell (aV a.b 5) (.slice (some (aV g9 0)) (it.stops.length + 1) d9)) { a with eA := some (aV g8 0), eC := d8 } { a with eA := some (aV g8 0), eC := d8, sB := g9, sC := d9 } { cF it with stops := (cF it).stops ++ [⟨ln.to, it.leave + ln.travel, -1, -1⟩], seals := it.seals ++ [cZ li it.leave] } := by rw [<- HL9.out]; exact s9
  have M10 : Hid (MdS w X T n nx nxA nxC h A before ln k V its A' a (v9.setCell (aV a.b 5) (.slice (some (aV g9 0)) (it.stops.length + 1) d9)) { cF it with stops := (cF it).stops ++ [⟨ln.to, it.leave + ln.travel, -1, -1⟩], seals := it.seals ++ [cZ li it.leave] } { a with eA := some (aV g8 0), eC := d8, sB := g9, sC := d9 }) := M9.out.step HKK.out.1 HKK.out.2 s10 rfl HTE.out.symm HXV.out HFR.out
  have HKB := aB hkb
  have HKT := aB hkt
  have fz9 : v9.frozen? (aV a.b 5) = false := ac (hkb.trans HR8.out) 5
  clear own9 hg9 hat9 hlt9 ha9 hc9 hnb hkb hkt s9 s10
  refine hK.out _ _ (HST9.out _ HKB.out HKT.out) (fun hHeld => ?_)
  clear hK K
  try simp only [LY]
  refine puL 18 ?_
  try simp only [LY]
  refine puL 19 ?_
  try simp only [LY]
  refine puL 20 ?_
  try simp only [LY]
  refine bZ (by kernel_rfl) rfl (fun K hK => ?_)
  go_simp
  refine hK.out _ _ ?_
  clear hK K
  try simp only [LY]
  refine wpAny_done (by kernel_rfl) ?_ _
  change Exit.then _ _ _ _ (v9.setCell (aV a.b 5) (.slice (some (aV g9 0)) (it.stops.length + 1) d9))
  clear fz9 hHeld HKB HKT HD8 HST9 HR8 HIN HAB
  generalize (v9.setCell (aV a.b 5) (.slice (some (aV g9 0)) (it.stops.length + 1) d9)) = V9 at *
  have hin := M10.out.in_ HKK.out.1 HKK.out.2
  obtain ⟨lv9, l64, lq, lR⟩ := hin.1.cells
  have c10 : V9.cell? (aV a.b 10) = some (iV it.holds) := aA 10 lR
  have f10 : V9.frozen? (aV a.b 10) = false := ac lR 10
  have hgone : cw n it = { cF it with stops := (cF it).stops ++ [⟨ln.to, it.leave + ln.travel, -1, -1⟩], seals := it.seals ++ [cZ li it.leave], holds := 0 } := by
   rw [gone_eq, HLE.out, Int.toNat_natCast, HLN.out]
  have hst := hin.1.store (it' := cw n it) (lv' := lv9) lR hin.2 (i := 10) (v := iV 0) (by rw [hgone]; rfl) (by rw [hgone]) (by rw [hgone]) (by rw [hgone]) (by rw [hgone]) ⟨l64, by rw [hgone]; exact lq⟩
  have s11 : dS w.heap.size V9 (V9.setCell (aV a.b 10) (iV 0)) { a with eA := some (aV g8 0), eC := d8, sB := g9, sC := d9 } { a with eA := some (aV g8 0), eC := d8, sB := g9, sC := d9 } (cw n it) := ⟨hst, dW _ _ _ (by simp [ItA.blks]), fun b hb => .inl hb, hin.2, rfl⟩
  have M11 : Hid (MdS w X T n nx nxA nxC h A before ln k V its A' a (V9.setCell (aV a.b 10) (iV 0)) (cw n it) { a with eA := some (aV g8 0), eC := d8, sB := g9, sC := d9 }) := M10.out.step HKK.out.1 HKK.out.2 s11 rfl HTE.out.symm HXV.out HFR.out
  clear hin l64 lq lR hgone hst s11
  gi_upto_region 11 with fail
  clear c10 f10
  change Code.wpIn _ _ _ _ _ _ (V9.setCell (aV a.b 10) (iV 0))
  generalize (V9.setCell (aV a.b 10) (iV 0)) = V10 at *
  have x0 : V10.cell? (aV X 0) = some (.pointer (some (aV A.hb 0))) := aA 0 M11.out.p0
  obtain ⟨hpg, hgok⟩ := HP.out.pri.goes HG.out HF.out HIT.out.1 HGO.out (HP.out.pri.dst HDS.out (aF HIT.out.1)) (by have := H20.out; omega)
  obtain ⟨hdw, hto⟩ := ut HP.out.pri (fun y hy => (HOK.out y hy).2.2) HIT.out.1 hgok
  have g1 : (its.set k (cw n it))[k]? = some (cw n it) := by rw [List.getElem?_set, if_pos rfl, if_pos HKK.out.1]
  have g2 : (A'.its.set k { a with eA := some (aV g8 0), eC := d8, sB := g9, sC := d9 })[k]? = some { a with eA := some (aV g8 0), eC := d8, sB := g9, sC := d9 } := by rw [List.getElem?_set, if_pos rfl, if_pos HKK.out.2]
  have hcall := gq w V10 n nx nxA nxC { h with items := its.set k (cw n it) } { A' with its := A'.its.set k { a with eA := some (aV g8 0), eC := d8, sB := g9, sC := d9 } } k (cw n it) { a with eA := some (aV g8 0), eC := d8, sB := g9, sC := d9 } hS HF.out M11.out.wd g1 g2 hdw
  rw [show ({ A' with its := A'.its.set k { a with eA := some (aV g8 0), eC := d8, sB := g9, sC := d9 } } : HsA).hb = A.hb from congrArg (·.1) HP.out.hb] at hcall
  have HCALL := aB hcall
  have HPG := aB hpg
  have HTO := aB hto
  clear hcall hpg hgok hdw hto g1 g2
  gi_wp2_with (refine ⟨trivial, ?_⟩; gi_at_call 101; refine (CallsIn.inRound l (callsIn_wide.2 HCALL.out)).mono ?_; rintro e V11 ⟨rfl, hs⟩; have HS11 := aB hs; clear hs)
  have M12 := M11.out.step HKK.out.1 HKK.out.2 HS11.out rfl HTE.out.symm HXV.out HFR.out
  have hT := HTE.out
  have hZ := HZ.out
  have hZE := HZE.out
  have hSZ := HSZ.out
  refine ⟨fun b hb => M12.chg.block b (by omega) (fun hm => ?_), f - 1, by have := HP.out.pri.pos HIT.out.1; omega, its.set k (gy n nx h.canc (bw h.items it) it), { A' with its := A'.its.set k { a with eA := some (aV g8 0), eC := d8, sB := g9, sC := d9 } }, ⟨?_, HPG.out, HP.out.hb, HP.out.iB, HP.out.iC, ?_, fun b hb => ?_, M12.p0, M12.p1, M12.p2, M12.p3⟩⟩
  ·have := HP.out.far b (aP _ (List.mem_flatMap.2 ⟨a, aF HIT.out.2.1, hm⟩))
   omega
  ·have w12 := M12.wd
   have e12 : aY n nx h.canc (bw (its.set k (cw n it)) (cw n it)) (cw n it) = gy n nx h.canc (bw h.items it) it := by rw [HTO.out]; rfl
   rw [e12] at w12
   exact w12
  ·rw [<- HP.out.bs]
   apply List.ext_getElem?
   intro i
   rw [aS, aS, List.getElem?_set]
   by_cases hik : k = i
   ·subst hik
    rw [if_pos rfl, if_pos HKK.out.2, HIT.out.2.1]
    rfl
   ·rw [if_neg hik]
  ·rcases List.mem_append.1 hb with hb | hb
   ·exact HP.out.far b (aQ _ hb)
   ·obtain ⟨x, hx, hbx⟩ := List.mem_flatMap.1 hb
    obtain ⟨i, hi⟩ := List.getElem?_of_mem hx
    rw [List.getElem?_set] at hi
    by_cases hik : k = i
    ·subst hik
     rw [if_pos rfl, if_pos HKK.out.2] at hi
     cases hi
     rcases M12.blk b hbx with h1 | h1
     ·exact HP.out.far b (aP _ (List.mem_flatMap.2 ⟨a, aF HIT.out.2.1, h1⟩))
     ·exact .inr (by omega)
    ·rw [if_neg hik] at hi
     exact HP.out.far b (aP _ (List.mem_flatMap.2 ⟨x, aF hi, hbx⟩))
end
end Go.Proofs.YtpeaiphdkgifaaaGreatDoor
