/-
  The walk over the law WorldAlone.
-/
import Derived.Test.YtpeaiphdkgifaaaGreatDoorWxWAlone
namespace Go.Proofs.YtpeaiphdkgifaaaGreatDoor
open Go.RowKit
set_option maxHeartbeats 20000000
set_option maxRecDepth 100000
section
attribute [local go_sem] Oper.semAt_some
theorem dedInf : (Tryz.prog.info? 44).map (fun i => (i.zero, i.size, i.bytes)) = some (some (.agg #[iV 0, iV 0, .string ⟨#[]⟩, iV 0, iV 0, iV 0, iV 0, .string ⟨#[]⟩, .string ⟨#[]⟩, iV 0]), 10, 104) := by kernel_rfl
structure AlS (base : Nat) (W : World) (ds : List Ded) (l : List UInt8) (k m : Nat) (v : Value) : Prop where
 len : m = ((ds.take k).filter (ownB l)).length
 own : W.ownsRow base 44 10 v m (((ds.take k).filter (ownB l)).flatMap encD)
 no4 : ∀ d ∈ ds.take k, d.kind ≠ 4
theorem filter_snoc {ds : List Ded} {l : List UInt8} {k : Nat} {d : Ded} (hd : ds[k]? = some d) : (ds.take (k + 1)).filter (ownB l) = (ds.take k).filter (ownB l) ++ if ownB l d = true then [d] else [] := by
 rw [List.take_add_one, hd, List.filter_append]
 congr 1
 show List.filter (ownB l) [d] = _
 by_cases h : ownB l d = true
 ·rw [if_pos h, List.filter_cons_of_pos h]
  rfl
 ·rw [if_neg h, List.filter_cons_of_neg h]
  rfl
theorem AlS.skip {base : Nat} {W W' : World} {ds : List Ded} {l : List UInt8} {k m : Nat} {v : Value} {d : Ded} (h : AlS base W ds l k m v) (hw : W'.ownsRow base 44 10 v m (((ds.take k).filter (ownB l)).flatMap encD)) (hd : ds[k]? = some d) (h4 : d.kind ≠ 4) (ho : ownB l d = false) : AlS base W' ds l (k + 1) m v := by
 have e : (ds.take (k + 1)).filter (ownB l) = (ds.take k).filter (ownB l) := by rw [filter_snoc hd, ho]; simp
 refine ⟨by rw [e]; exact h.len, by rw [e]; exact hw, fun x hx => ?_⟩
 rw [List.take_add_one, hd] at hx
 rcases List.mem_append.1 hx with hx | hx
 ·exact h.no4 x hx
 ·have : x = d := by simpa using hx
  rw [this]
  exact h4
theorem AlS.add {base : Nat} {W W' : World} {ds : List Ded} {l : List UInt8} {k m : Nat} {v v' : Value} {d : Ded} (h : AlS base W ds l k m v) (hd : ds[k]? = some d) (h4 : d.kind ≠ 4) (ho : ownB l d = true) (hw : W'.ownsRow base 44 10 v' (m + 1) (((ds.take k).filter (ownB l)).flatMap encD ++ encD d)) : AlS base W' ds l (k + 1) (m + 1) v' := by
 have e : (ds.take (k + 1)).filter (ownB l) = (ds.take k).filter (ownB l) ++ [d] := by rw [filter_snoc hd, if_pos ho]
 refine ⟨by rw [e, List.length_append, <- h.len]; rfl, by rw [e, List.flatMap_append]; exact (by simpa using hw), fun x hx => ?_⟩
 rw [List.take_add_one, hd] at hx
 rcases List.mem_append.1 hx with hx | hx
 ·exact h.no4 x hx
 ·have : x = d := by simpa using hx
  rw [this]
  exact h4
theorem walone_any (n : Net) (fr till : Int) (nx : List NsC) (nxA : Option Addr) (nxC : Nat) (D : Option Addr) (dl dc : Nat) (DA : Option Addr) (DC : Nat) (ds : List Ded) (z : Nat) (w : World) (h : LawIn w n nx nxA DA DC ds) (hz : z <= 255) :
  Calls Tryz.prog 7 #[netV n, planV fr till nxA nx.length nxC D dl dc, .slice DA ds.length DC, u8V z] w fun e w' => e = .returned (.bool true) /\ Below w.heap.size w w' := by
 have HIN := Lib.hid h
 have HL := Lib.hid (LwW.start (fr := fr) (till := till) (nxC := nxC) (D := D) (dl := dl) (dc := dc) h)
 clear h
 go_enter Tryz.func7, Tryz.ntmps7
 go_upto_region 1 with fail
 change Code.wp _ _ _ _ (allocs w (runObjs n fr till nxA nx.length nxC D dl dc))
 generalize allocs w (runObjs n fr till nxA nx.length nxC D dl dc) = V1 at HL ⊢
 generalize hN : w.heap.size = N at HL ⊢
 rw [<- hN] at HL
 have HL : Hid (LwW w n fr till nx nxA nxC D dl dc DA ds N (N + 1) V1) := by have h9 := HL.out; rw [hN] at h9; exact h9
 generalize hP : N + 1 = P at HL ⊢
 clear hN hP
 go_wp2_with fail
 refine (headW_any V1 HL.out.kw HL.out.pw).mono ?_
 rintro e V2 ⟨rfl, hb⟩
 replace HL := Lib.hid (HL.out.below hb)
 clear hb
 obtain ⟨⟨n0, n1, n2, n3, n4, n5⟩, p0, p1, p2, p3⟩ := HL.out.cells
 go_wp2_with fail
 have hcall := HL.out.fine (DC := DC) (fr := fr) (till := till) HIN.out
 have HCALL := Lib.hid hcall
 clear hcall
 with_reducible refine HCALL.out.mono ?_
 rintro e V3 ⟨⟨b, rfl, hf⟩, hb⟩
 clear HCALL
 clear n0 n1 n2 n3 n4 n5 p0 p1 p2 p3
 replace HL := Lib.hid (HL.out.below hb)
 clear hb
 have HFF := Lib.hid hf
 clear hf
 cases b
 case false =>
  go_wp2_with fail
  go_ret
  exact ⟨rfl, HL.out.bel⟩
 have HF := Lib.hid (HFF.out rfl)
 clear HFF
 obtain ⟨⟨n0, n1, n2, n3, n4, n5⟩, p0, p1, p2, p3⟩ := HL.out.cells
 go_wp2_with fail
 have hcall := HL.out.run HF.out.sound HF.out.form HF.out.six (ds' := ds) rfl HF.out.ok (by have := HF.out.deds; omega) DA DC HL.out.rd
 have HCALL := Lib.hid hcall
 clear hcall
 with_reducible refine HCALL.out.mono ?_
 rintro e V4 ⟨hb, hR⟩
 clear HCALL
 clear n0 n1 n2 n3 n4 n5 p0 p1 p2 p3
 replace HL := Lib.hid (HL.out.below hb)
 clear hb
 rcases hR with ⟨hr, rfl⟩ | ⟨h, ts, A, c, hr, hts, rfl, hT⟩
 case inl =>
  clear hr
  go_wp2_with fail
  go_ret
  exact ⟨rfl, HL.out.bel⟩
 have HR := Lib.hid hr
 have HTS := Lib.hid hts
 have HT := Lib.hid hT
 have hl16 : ts.length <= 16 := by rw [hts.len]; exact HF.out.few16 hr
 have hd16 : ds.length <= 16 := HF.out.deds
 clear hr hts hT
 by_cases g0 : ts.length = 0
 case pos =>
  have e0 : ((ts.length : Int) == 0) = true := by simp [g0]
  clear g0
  go_wp2_with fail
  go_ret
  exact ⟨rfl, HL.out.bel⟩
 have e0 : ((ts.length : Int) == 0) = false := by rw [beq_eq_false_iff_ne]; omega
 have HTP : Hid (0 < ts.length) := by show 0 < ts.length; omega
 clear g0
 have z0 : (0 : Int) <= (z : Int) := by omega
 have z1 : (z : Int) <= 255 := by omega
 have s1 : (0 : Int) < (ts.length : Int) := by have := HTP.out; omega
 have m0 : 0 <= (z : Int) % (ts.length : Int) := Int.emod_nonneg _ (by omega)
 have m1 : (z : Int) % (ts.length : Int) < (ts.length : Int) := Int.emod_lt_of_pos _ s1
 obtain ⟨it, a, ht, hit⟩ := HTS.out.get (i := z % ts.length) (Nat.mod_lt _ HTP.out)
 obtain ⟨tb, to_, hA, hc⟩ := HT.out.atI ht
 have hc' := hc V4 (Below.refl _ _)
 obtain ⟨⟨x0, x1, x2, x3, x4⟩, x5, x6, x7, x8, x9⟩ := hc'
 have HI := Lib.hid (HF.out.item HR.out (List.mem_of_getElem? hit) a)
 have HTI := Lib.hid (HT.out.tr _ (List.mem_of_getElem? ht))
 rw [hA]
 clear hc ht hit hA
 go_upto_region 8 with fail
 clear x0 x1 x2 x3 x4 x5 x6 x7 x8 x9 m0 m1 s1
 have hb := ba V4 (trkO (trkOf it a))
 have hg := heap_alloc_new V4 (trkO (trkOf it a))
 replace HL := Lib.hid (HL.out.below hb)
 replace HT := Lib.hid (HT.out.below hb)
 replace HTI := Lib.hid (HTI.out.below hb)
 change Code.wp _ _ _ _ (V4.alloc (trkO (trkOf it a)))
 generalize (V4.alloc (trkO (trkOf it a))) = V4' at *
 generalize V4.heap.size = X at hg ⊢
 have HG := Lib.hid hg
 clear hb hg
 have HL0 := HL
 have HG0 := HG
 have HTI0 := HTI
 have hgn := heap_alloc_new V4' (.cells #[] 44)
 have hbn := ba V4' (.cells #[] 44)
 replace HL := Lib.hid (HL.out.below hbn)
 replace HT := Lib.hid (HT.out.below hbn)
 replace HTI := Lib.hid (HTI.out.below hbn)
 replace HG := Lib.hid ((hbn.block _ (block_lt HG.out)).trans HG.out)
 have HA0 : Hid (AlS V4'.heap.size (V4'.alloc (.cells #[] 44)) ds it.post.label 0 0 (.slice (some ⟨V4'.heap.size, 0, none⟩) 0 0)) := ⟨rfl, own_block hgn (Nat.le_refl _) rfl (by decide) rfl, fun d hd => by cases hd⟩
 have HBW0 : Hid (w.heap.size <= V4'.heap.size) := by have h9 := HL0.out.bel.size; exact h9
 have HRW : Hid (∀ W, Below V4'.heap.size (V4'.alloc (.cells #[] 44)) W -> Rd W DA (ds.flatMap encD)) := fun W hb => HL0.out.rd.below ((ba V4' _).trans hb)
 have HGW : Hid (∀ W, Below V4'.heap.size (V4'.alloc (.cells #[] 44)) W -> W.heap[X]? = some (trkO (trkOf it a))) := fun W hb => (((ba V4' _).trans hb).block _ (block_lt HG0.out)).trans HG0.out
 have HTW : Hid (∀ W, Below V4'.heap.size (V4'.alloc (.cells #[] 44)) W -> TrkIn W (trkOf it a)) := fun W hb => HTI0.out.below ((ba V4' _).trans hb)
 have HLW0 : Hid (∀ W, Below V4'.heap.size (V4'.alloc (.cells #[] 44)) W -> LwW w n fr till nx nxA nxC D dl dc DA ds N P W) := fun W hb => HL0.out.below ((ba V4' _).trans hb)
 have HBELW : Hid (∀ W, Below V4'.heap.size (V4'.alloc (.cells #[] 44)) W -> Below w.heap.size w W) := fun W hb => HL0.out.bel.trans (((ba V4' _).trans hb).mono HL0.out.bel.size)
 clear HL HG HTI HT HL0 HG0 HTI0
 go_upto_region 10 with fail
 change Code.wp _ _ _ _ (V4'.alloc (.cells #[] 44))
 have HZ : Hid (V4'.heap.size <= (V4'.alloc (.cells #[] 44)).heap.size) := by show _ <= _; simp
 clear hgn hbn
 generalize (V4'.alloc (.cells #[] 44)) = V5 at *
 obtain ⟨i0, hi0, hz0, hz1, hz2⟩ := info_parts dedInf
 have HBS : Hid (w.heap.size <= V4'.heap.size) := HBW0.out
 generalize V4'.heap.size = base at HA0 HZ HBS HRW HGW HTW HLW0 HBELW ⊢
 generalize hv0 : (Value.slice (some ⟨base, 0, none⟩) 0 0) = v0 at HA0 ⊢
 go_loopw [13, 14, 15] (fun v i _ wr => ∃ (k m c' : Nat) (A' : Option Addr), k <= ds.length /\ i = iV k /\ v = .slice A' m c' /\ m <= k /\ Hid (AlS base wr ds it.post.label k m (.slice A' m c')) /\ Hid (Below base V5 wr)) (fun _ i _ _ => ds.length + 1 - (intOf i).toNat)
 case atStart => exact ⟨0, 0, 0, some ⟨base, 0, none⟩, Nat.zero_le _, rfl, hv0.symm, Nat.le_refl _, by rw [hv0]; exact HA0, Lib.hid (Below.refl _ _)⟩
 case round =>
 obtain ⟨k, m, c', A', hk, rfl, rfl, hmk, HAL, HB5⟩ := hrel
 clear hv0 HA0
 have k0 : (0 : Int) <= (k : Int) := by omega
 by_cases hlt : k < ds.length
 case pos =>
  have HLT := Lib.hid hlt
  have k1 : (k : Int) < (ds.length : Int) := by omega
  obtain ⟨d, hd⟩ : ∃ d, ds[k]? = some d := ⟨_, List.getElem?_eq_getElem hlt⟩
  have hrd : Rd wr DA (ds.flatMap encD) := HRW.out wr HB5.out
  obtain ⟨-, db, dof, hDA, -, y0, yj⟩ := elem_at encD_len hrd hd (by omega)
  have z0 : wr.cell? ⟨db, dof + k * 10, none⟩ = some (iV d.kind) := y0 _ rfl
  have z1 : wr.cell? ⟨db, dof + k * 10 + 1, none⟩ = some (iV d.time) := yj 1 _ rfl
  have z2 : wr.cell? ⟨db, dof + k * 10 + 2, none⟩ = some (sV d.post.label) := yj 2 _ rfl
  have z3 : wr.cell? ⟨db, dof + k * 10 + 3, none⟩ = some (iV d.post.frm) := yj 3 _ rfl
  have z4 : wr.cell? ⟨db, dof + k * 10 + 4, none⟩ = some (iV d.post.dst) := yj 4 _ rfl
  have z5 : wr.cell? ⟨db, dof + k * 10 + 5, none⟩ = some (iV d.post.cls) := yj 5 _ rfl
  have z6 : wr.cell? ⟨db, dof + k * 10 + 6, none⟩ = some (iV d.post.acc) := yj 6 _ rfl
  have z7 : wr.cell? ⟨db, dof + k * 10 + 7, none⟩ = some (sV d.label) := yj 7 _ rfl
  have z8 : wr.cell? ⟨db, dof + k * 10 + 8, none⟩ = some (sV d.other) := yj 8 _ rfl
  have z9 : wr.cell? ⟨db, dof + k * 10 + 9, none⟩ = some (iV d.line) := yj 9 _ rfl
  have HDE := Lib.hid hd
  rw [hDA]
  clear y0 yj hd hDA hrd hlt
  go_upto_region 13 with fail
  clear z0 z1 z2 z3 z4 z5 z6 z7 z8 z9
  have hb := ba wr (dedO d)
  have hg := heap_alloc_new wr (dedO d)
  have HB6 : Hid (Below base V5 (wr.alloc (dedO d))) := HB5.out.trans (hb.mono (Nat.le_trans HZ.out HB5.out.size))
  have HAW := Lib.hid (own_below HAL.out.own hb)
  change Code.wp _ _ _ _ (wr.alloc (dedO d))
  generalize (wr.alloc (dedO d)) = V6 at *
  generalize wr.heap.size = Y at *
  have z0 : V6.cell? ⟨Y, 0, none⟩ = some (iV d.kind) := cell_of_row _ _ 0 _ _ _ hg
  have z1 : V6.cell? ⟨Y, 1, none⟩ = some (iV d.time) := cell_of_row _ _ 1 _ _ _ hg
  have z2 : V6.cell? ⟨Y, 2, none⟩ = some (sV d.post.label) := cell_of_row _ _ 2 _ _ _ hg
  have z3 : V6.cell? ⟨Y, 3, none⟩ = some (iV d.post.frm) := cell_of_row _ _ 3 _ _ _ hg
  have z4 : V6.cell? ⟨Y, 4, none⟩ = some (iV d.post.dst) := cell_of_row _ _ 4 _ _ _ hg
  have z5 : V6.cell? ⟨Y, 5, none⟩ = some (iV d.post.cls) := cell_of_row _ _ 5 _ _ _ hg
  have z6 : V6.cell? ⟨Y, 6, none⟩ = some (iV d.post.acc) := cell_of_row _ _ 6 _ _ _ hg
  have z7 : V6.cell? ⟨Y, 7, none⟩ = some (sV d.label) := cell_of_row _ _ 7 _ _ _ hg
  have z8 : V6.cell? ⟨Y, 8, none⟩ = some (sV d.other) := cell_of_row _ _ 8 _ _ _ hg
  have z9 : V6.cell? ⟨Y, 9, none⟩ = some (iV d.line) := cell_of_row _ _ 9 _ _ _ hg
  have x0 : V6.cell? ⟨X, 0, none⟩ = some (sV it.post.label) := (trk_boxI (HGW.out V6 HB6.out)).1.1
  clear hg hb
  by_cases h4 : d.kind = 4
  case pos =>
   have e4 : (d.kind == 4) = true := by simpa using h4
   clear h4
   go_wp2_with fail
   go_ret
   exact ⟨rfl, HBELW.out V6 HB6.out⟩
  have e4 : (d.kind == 4) = false := by simpa using h4
  have H4 := Lib.hid h4
  clear h4
  cases e5 : (d.kind == 5) with
  | true =>
   have HOW : Hid (ownB it.post.label d = true) := by show _ = _; unfold ownB; simp [e5]
   go_wp2_with (at_builtin; go_loud (refine wpList_append_lies _ rfl _ _ _ rfl base 44 i0 _ 10 104 Tryz.underlying34 hi0 hz0 hz1 hz2 rfl (by omega) _ _ _ rfl (own_below HAW.out (ba V6 _)) ⟨V6.heap.size, 0, none⟩ 1 1 (encD d) rfl rfl (fun j u hu => by rw [add_at, Nat.zero_add]; exact (cell_of_row _ _ j _ _ _ (heap_alloc_new V6 (dedO d))).trans (by simpa [encD] using hu)) (fun u hu => by simp [encD] at hu; rcases hu with rfl | rfl | rfl | rfl | rfl | rfl | rfl | rfl | rfl | rfl <;> rfl) (by omega) (by unfold maxLen; omega) (by omega) (by have := HZ.out; have := HB6.out.size; simp; omega) (V6.heap.size + 1) (by simp) ?_; intro g cap w2 own1 hgrow hat1 hlt1; clear hat1 hlt1))
   have HO1 := Lib.hid own1
   have HB7 : Hid (Below base V5 w2) := (HB6.out.trans ((ba V6 (dedO d)).mono (Nat.le_trans HZ.out HB6.out.size))).grown hgrow (by have := HZ.out; have := HB6.out.size; simp; omega) (fun x hx => (own_lt HAW.out hx).1)
   clear own1 hgrow x0 z0 z1 z2 z3 z4 z5 z6 z7 z8 z9
   go_roundw
   case rel => exact ⟨k + 1, m + 1, cap, some ⟨g, 0, none⟩, HLT.out, by go_num, rfl, Nat.succ_le_succ hmk, Lib.hid (HAL.out.add HDE.out H4.out HOW.out HO1.out), HB7⟩
   case measure => have := HLT.out; simp [intOf]; omega
  | false =>
  cases e1 : (d.kind == 1) with
  | true =>
   have e1' : (d.kind != 1) = false := by simpa using e1
   cases ep : (d.post.label == it.post.label) with
   | true =>
    have HOW : Hid (ownB it.post.label d = true) := by show _ = _; unfold ownB; simp only [e5, e1, ep]; rfl
    go_wp2_with (at_builtin; go_loud (refine wpList_append_lies _ rfl _ _ _ rfl base 44 i0 _ 10 104 Tryz.underlying34 hi0 hz0 hz1 hz2 rfl (by omega) _ _ _ rfl (own_below HAW.out (ba V6 _)) ⟨V6.heap.size, 0, none⟩ 1 1 (encD d) rfl rfl (fun j u hu => by rw [add_at, Nat.zero_add]; exact (cell_of_row _ _ j _ _ _ (heap_alloc_new V6 (dedO d))).trans (by simpa [encD] using hu)) (fun u hu => by simp [encD] at hu; rcases hu with rfl | rfl | rfl | rfl | rfl | rfl | rfl | rfl | rfl | rfl <;> rfl) (by omega) (by unfold maxLen; omega) (by omega) (by have := HZ.out; have := HB6.out.size; simp; omega) (V6.heap.size + 1) (by simp) ?_; intro g cap w2 own1 hgrow hat1 hlt1; clear hat1 hlt1))
    have HO1 := Lib.hid own1
    have HB7 : Hid (Below base V5 w2) := (HB6.out.trans ((ba V6 (dedO d)).mono (Nat.le_trans HZ.out HB6.out.size))).grown hgrow (by have := HZ.out; have := HB6.out.size; simp; omega) (fun x hx => (own_lt HAW.out hx).1)
    clear own1 hgrow x0 z0 z1 z2 z3 z4 z5 z6 z7 z8 z9
    go_roundw
    case rel => exact ⟨k + 1, m + 1, cap, some ⟨g, 0, none⟩, HLT.out, by go_num, rfl, Nat.succ_le_succ hmk, Lib.hid (HAL.out.add HDE.out H4.out HOW.out HO1.out), HB7⟩
    case measure => have := HLT.out; simp [intOf]; omega
   | false =>
    have HOW : Hid (ownB it.post.label d = false) := by show _ = _; unfold ownB; simp only [e5, e1, ep]; rfl
    go_wp2_with fail
    clear x0 z0 z1 z2 z3 z4 z5 z6 z7 z8 z9
    go_roundw
    case rel => exact ⟨k + 1, m, c', A', HLT.out, by go_num, rfl, Nat.le_succ_of_le hmk, Lib.hid (HAL.out.skip HAW.out HDE.out H4.out HOW.out), HB6⟩
    case measure => have := HLT.out; simp [intOf]; omega
  | false =>
  have e1' : (d.kind != 1) = true := by simpa using e1
  cases el : (d.label == it.post.label) with
  | true =>
   have HOW : Hid (ownB it.post.label d = true) := by show _ = _; unfold ownB; simp only [e5, e1, el]; rfl
   go_wp2_with (at_builtin; go_loud (refine wpList_append_lies _ rfl _ _ _ rfl base 44 i0 _ 10 104 Tryz.underlying34 hi0 hz0 hz1 hz2 rfl (by omega) _ _ _ rfl (own_below HAW.out (ba V6 _)) ⟨V6.heap.size, 0, none⟩ 1 1 (encD d) rfl rfl (fun j u hu => by rw [add_at, Nat.zero_add]; exact (cell_of_row _ _ j _ _ _ (heap_alloc_new V6 (dedO d))).trans (by simpa [encD] using hu)) (fun u hu => by simp [encD] at hu; rcases hu with rfl | rfl | rfl | rfl | rfl | rfl | rfl | rfl | rfl | rfl <;> rfl) (by omega) (by unfold maxLen; omega) (by omega) (by have := HZ.out; have := HB6.out.size; simp; omega) (V6.heap.size + 1) (by simp) ?_; intro g cap w2 own1 hgrow hat1 hlt1; clear hat1 hlt1))
   have HO1 := Lib.hid own1
   have HB7 : Hid (Below base V5 w2) := (HB6.out.trans ((ba V6 (dedO d)).mono (Nat.le_trans HZ.out HB6.out.size))).grown hgrow (by have := HZ.out; have := HB6.out.size; simp; omega) (fun x hx => (own_lt HAW.out hx).1)
   clear own1 hgrow x0 z0 z1 z2 z3 z4 z5 z6 z7 z8 z9
   go_roundw
   case rel => exact ⟨k + 1, m + 1, cap, some ⟨g, 0, none⟩, HLT.out, by go_num, rfl, Nat.succ_le_succ hmk, Lib.hid (HAL.out.add HDE.out H4.out HOW.out HO1.out), HB7⟩
   case measure => have := HLT.out; simp [intOf]; omega
  | false =>
  have HOW : Hid (ownB it.post.label d = false) := by show _ = _; unfold ownB; simp only [e5, e1, el]; rfl
  go_wp2_with fail
  clear x0 z0 z1 z2 z3 z4 z5 z6 z7 z8 z9
  go_roundw
  case rel => exact ⟨k + 1, m, c', A', HLT.out, by go_num, rfl, Nat.le_succ_of_le hmk, Lib.hid (HAL.out.skip HAW.out HDE.out H4.out HOW.out), HB6⟩
  case measure => have := HLT.out; simp [intOf]; omega
 case neg =>
 have k1 : ¬ (k : Int) < (ds.length : Int) := by omega
 have hown := HAL.out
 have hno4 : ∀ d ∈ ds, d.kind ≠ 4 := by have h9 := hown.no4; rwa [List.take_of_length_le (by omega)] at h9
 have hown2 : Rd wr A' ((ds.filter (ownB it.post.label)).flatMap encD) /\ m = (ds.filter (ownB it.post.label)).length := by
  have h9 := rd_own hown.own
  have h8 := hown.len
  rw [List.take_of_length_le (by omega)] at h9 h8
  exact ⟨h9, h8⟩
 obtain ⟨hdo, cc, hrr⟩ := alone_end HF.out.sound.1.good HF.out.form HR.out HF.out.ok hno4 HI.out.mem
 have HLW := Lib.hid (HLW0.out wr HB5.out)
 have hfl : (ds.filter (ownB it.post.label)).length <= 50 := by have := List.length_filter_le (ownB it.post.label) ds; omega
 have hcall := HLW.out.run HF.out.sound HF.out.form HF.out.six (m := m) hown2.2.symm hdo hfl A' c' hown2.1
 have HCALL := Lib.hid hcall
 have HRR := Lib.hid hrr
 have HGR := Lib.hid (HGW.out wr HB5.out)
 have HTR := Lib.hid (HTW.out wr HB5.out)
 obtain ⟨⟨n0, n1, n2, n3, n4, n5⟩, p0, p1, p2, p3⟩ := HLW.out.cells
 clear hown hno4 hown2 hdo hrr hfl hcall
 go_wp2_with fail
 with_reducible refine HCALL.out.mono ?_
 rintro e V7 ⟨hb, hR⟩
 clear HCALL n0 n1 n2 n3 n4 n5 p0 p1 p2 p3
 rcases hR with ⟨hr, rfl⟩ | ⟨h', ts', A2, c2, hr, hts, rfl, hT⟩
 case inl => rw [HRR.out] at hr; cases hr
 rw [HRR.out] at hr
 cases hr
 have hl1 : ts'.length = 1 := hts.len
 obtain ⟨it', a', ht', hit'⟩ := hts.get (i := 0) (by omega)
 have hii : it' = it := by simpa using hit'.symm
 subst hii
 obtain ⟨tb2, to2, hA2, hc2⟩ := hT.atI ht'
 have HBV := Lib.hid hb
 have HC2 := Lib.hid hc2
 have HT2 := Lib.hid (hT.tr _ (List.mem_of_getElem? ht'))
 rw [hl1, hA2]
 clear hb hts hT hl1 ht' hit' hA2 hc2
 have HD0 : Hid (Below V7.heap.size V7 V7.drew) := b_drew (Below.refl _ _)
 have HSQ : Hid (∀ w', Below V7.heap.size V7 w' -> (w'.cell? ⟨tb2, to2, none⟩ = some (sV it'.post.label) /\ w'.cell? ⟨tb2, to2 + 1, none⟩ = some (iV it'.post.frm) /\ w'.cell? ⟨tb2, to2 + 2, none⟩ = some (iV it'.post.dst) /\ w'.cell? ⟨tb2, to2 + 3, none⟩ = some (iV it'.post.cls) /\ w'.cell? ⟨tb2, to2 + 4, none⟩ = some (iV it'.post.acc) /\ w'.cell? ⟨tb2, to2 + 5, none⟩ = some (.slice (some ⟨a'.sB, 0, none⟩) it'.stops.length a'.sC) /\ w'.cell? ⟨tb2, to2 + 6, none⟩ = some (.bool it'.lost) /\ w'.cell? ⟨tb2, to2 + 7, none⟩ = some (.slice (some ⟨a'.nB, 0, none⟩) it'.since.length a'.nC) /\ w'.cell? ⟨tb2, to2 + 8, none⟩ = some (.slice (some ⟨a'.lB, 0, none⟩) it'.labs.length a'.lC) /\ w'.cell? ⟨tb2, to2 + 9, none⟩ = some (.slice a'.eA it'.seals.length a'.eC) /\ w'.cell? ⟨X, 0, none⟩ = some (sV it'.post.label) /\ w'.cell? ⟨X, 1, none⟩ = some (iV it'.post.frm) /\ w'.cell? ⟨X, 2, none⟩ = some (iV it'.post.dst) /\ w'.cell? ⟨X, 3, none⟩ = some (iV it'.post.cls) /\ w'.cell? ⟨X, 4, none⟩ = some (iV it'.post.acc) /\ w'.cell? ⟨X, 5, none⟩ = some (.slice (some ⟨a.sB, 0, none⟩) it'.stops.length a.sC) /\ w'.cell? ⟨X, 6, none⟩ = some (.bool it'.lost) /\ w'.cell? ⟨X, 7, none⟩ = some (.slice (some ⟨a.nB, 0, none⟩) it'.since.length a.nC) /\ w'.cell? ⟨X, 8, none⟩ = some (.slice (some ⟨a.lB, 0, none⟩) it'.labs.length a.lC) /\ w'.cell? ⟨X, 9, none⟩ = some (.slice a.eA it'.seals.length a.eC))) := fun w' hb => by
  obtain ⟨⟨x0, x1, x2, x3, x4⟩, x5, x6, x7, x8, x9⟩ := HC2.out w' hb
  have hb2 := bt HBV.out hb
  obtain ⟨⟨y0, y1, y2, y3, y4⟩, y5, y6, y7, y8, y9⟩ := trk_boxI ((hb2.block _ (block_lt HGR.out)).trans HGR.out)
  rw [Nat.zero_mul, Nat.add_zero] at x0 x1 x2 x3 x4 x5 x6 x7 x8 x9
  exact ⟨x0, x1, x2, x3, x4, x5, x6, x7, x8, x9, y0, y1, y2, y3, y4, y5, y6, y7, y8, y9⟩
 have HCC : Hid (∀ W, Below V7.heap.size V7 W -> Calls Tryz.prog 20 #[trkV (trkOf it' a'), trkV (trkOf it' a)] W fun e w' => e = .returned (.bool true) /\ Below W.heap.size W w') := fun W hb =>
  sameTrack_refl (trkOf it' a') (trkOf it' a) W ⟨rfl, rfl, rfl, rfl, rfl, rfl⟩ (HT2.out.below hb) (HTR.out.below (bt HBV.out hb)) HI.out.short
 go_wp2_with fail
 go_region_held3 (fun w' => w'.cell? ⟨tb2, to2, none⟩ = some (sV it'.post.label) /\ w'.cell? ⟨tb2, to2 + 1, none⟩ = some (iV it'.post.frm) /\ w'.cell? ⟨tb2, to2 + 2, none⟩ = some (iV it'.post.dst) /\ w'.cell? ⟨tb2, to2 + 3, none⟩ = some (iV it'.post.cls) /\ w'.cell? ⟨tb2, to2 + 4, none⟩ = some (iV it'.post.acc) /\ w'.cell? ⟨tb2, to2 + 5, none⟩ = some (.slice (some ⟨a'.sB, 0, none⟩) it'.stops.length a'.sC) /\ w'.cell? ⟨tb2, to2 + 6, none⟩ = some (.bool it'.lost) /\ w'.cell? ⟨tb2, to2 + 7, none⟩ = some (.slice (some ⟨a'.nB, 0, none⟩) it'.since.length a'.nC) /\ w'.cell? ⟨tb2, to2 + 8, none⟩ = some (.slice (some ⟨a'.lB, 0, none⟩) it'.labs.length a'.lC) /\ w'.cell? ⟨tb2, to2 + 9, none⟩ = some (.slice a'.eA it'.seals.length a'.eC) /\ w'.cell? ⟨X, 0, none⟩ = some (sV it'.post.label) /\ w'.cell? ⟨X, 1, none⟩ = some (iV it'.post.frm) /\ w'.cell? ⟨X, 2, none⟩ = some (iV it'.post.dst) /\ w'.cell? ⟨X, 3, none⟩ = some (iV it'.post.cls) /\ w'.cell? ⟨X, 4, none⟩ = some (iV it'.post.acc) /\ w'.cell? ⟨X, 5, none⟩ = some (.slice (some ⟨a.sB, 0, none⟩) it'.stops.length a.sC) /\ w'.cell? ⟨X, 6, none⟩ = some (.bool it'.lost) /\ w'.cell? ⟨X, 7, none⟩ = some (.slice (some ⟨a.nB, 0, none⟩) it'.since.length a.nC) /\ w'.cell? ⟨X, 8, none⟩ = some (.slice (some ⟨a.lB, 0, none⟩) it'.labs.length a.lC) /\ w'.cell? ⟨X, 9, none⟩ = some (.slice a.eA it'.seals.length a.eC)) (first | (with_reducible exact HSQ.out _ HD0.out) | (with_reducible exact HSQ.out _ HU1.out)) (first
   | (go_at_call 20; refine (HCC.out _ HD0.out).mono ?_; rintro e u1 ⟨rfl, hb1⟩; have HU1 := Lib.hid (bt HD0.out hb1); clear hb1)
   | fail)
 have HBZ : Hid (Below w.heap.size w u1) := HLW.out.bel.trans ((bt HBV.out HU1.out).mono HLW.out.bel.size)
 go_wp2_with fail
 go_ret
 exact ⟨rfl, HBZ.out⟩
end
end Go.Proofs.YtpeaiphdkgifaaaGreatDoor
