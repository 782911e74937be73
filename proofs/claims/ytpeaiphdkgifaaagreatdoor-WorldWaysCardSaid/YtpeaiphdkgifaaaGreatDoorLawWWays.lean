/-
  The walk over the law WorldWays.
-/
import Derived.Test.YtpeaiphdkgifaaaGreatDoorWxWWays
namespace Go.Proofs.YtpeaiphdkgifaaaGreatDoor
open Go.RowKit
set_option maxHeartbeats 20000000
set_option maxRecDepth 100000
section
attribute [local go_sem] Oper.semAt_some
theorem wways_any (n : Net) (fr till : Int) (nx : List NsC) (nxA : Option Addr) (nxC : Nat) (D : Option Addr) (dl dc : Nat) (DA : Option Addr) (DC : Nat) (ds : List Ded) (z : Nat) (w : World) (h : LawIn w n nx nxA DA DC ds) (hz : z <= 255) :
  Calls Tryz.prog 9 #[netV n, planV fr till nxA nx.length nxC D dl dc, .slice DA ds.length DC, u8V z] w fun e w' => e = .returned (.bool true) /\ Below w.heap.size w w' := by
 have HIN := Lib.hid h
 have HL := Lib.hid (LwW.start (fr := fr) (till := till) (nxC := nxC) (D := D) (dl := dl) (dc := dc) h)
 clear h
 go_enter Tryz.func9, Tryz.ntmps9
 go_upto_region 1 with fail
 change Code.wp _ _ _ _ (allocs w (runObjs n fr till nxA nx.length nxC D dl dc))
 generalize allocs w (runObjs n fr till nxA nx.length nxC D dl dc) = V1 at HL ⊢
 generalize hN : w.heap.size = N at HL ⊢
 rw [<- hN] at HL
 have HL : Hid (LwW w n fr till nx nxA nxC D dl dc DA ds N (N + 1) V1) := by have h9 := HL.out; rw [hN] at h9; exact h9
 generalize hP : N + 1 = P at HL ⊢
 clear hN hP
 go_wp2_with fail
 refine (headW_any V1 HL.out.kw HL.out.pw).mono ?_
 rintro e V2 ⟨rfl, hb⟩
 replace HL := Lib.hid (HL.out.below hb)
 clear hb
 obtain ⟨⟨n0, n1, n2, n3, n4, n5⟩, p0, p1, p2, p3⟩ := HL.out.cells
 go_wp2_with fail
 have hcall := HL.out.fine (DC := DC) (fr := fr) (till := till) HIN.out
 have HCALL := Lib.hid hcall
 clear hcall
 with_reducible refine HCALL.out.mono ?_
 rintro e V3 ⟨⟨b, rfl, hf⟩, hb⟩
 clear HCALL
 clear n0 n1 n2 n3 n4 n5 p0 p1 p2 p3
 replace HL := Lib.hid (HL.out.below hb)
 clear hb
 have HFF := Lib.hid hf
 clear hf
 cases b
 case false =>
  go_wp2_with fail
  go_ret
  exact ⟨rfl, HL.out.bel⟩
 have HF := Lib.hid (HFF.out rfl)
 clear HFF
 obtain ⟨⟨n0, n1, n2, n3, n4, n5⟩, p0, p1, p2, p3⟩ := HL.out.cells
 go_wp2_with fail
 have hcall := HL.out.run HF.out.sound HF.out.form HF.out.six (ds' := ds) rfl HF.out.ok (by have := HF.out.deds; omega) DA DC HL.out.rd
 have HCALL := Lib.hid hcall
 clear hcall
 with_reducible refine HCALL.out.mono ?_
 rintro e V4 ⟨hb, hR⟩
 clear HCALL
 clear n0 n1 n2 n3 n4 n5 p0 p1 p2 p3
 replace HL := Lib.hid (HL.out.below hb)
 clear hb
 rcases hR with ⟨hr, rfl⟩ | ⟨h, ts, A, c, hr, hts, rfl, hT⟩
 case inl =>
  clear hr
  go_wp2_with fail
  go_ret
  exact ⟨rfl, HL.out.bel⟩
 have HR := Lib.hid hr
 have HTS := Lib.hid hts
 have HT := Lib.hid hT
 have hl16 : ts.length <= 16 := by rw [hts.len]; exact HF.out.few16 hr
 clear hr hts hT
 by_cases g0 : ts.length = 0
 case pos =>
  have e0 : ((ts.length : Int) == 0) = true := by simp [g0]
  clear g0
  go_wp2_with fail
  go_ret
  exact ⟨rfl, HL.out.bel⟩
 have e0 : ((ts.length : Int) == 0) = false := by rw [beq_eq_false_iff_ne]; omega
 have HTP : Hid (0 < ts.length) := by show 0 < ts.length; omega
 clear g0
 have z0 : (0 : Int) <= (z : Int) := by omega
 have z1 : (z : Int) <= 255 := by omega
 have s1 : (0 : Int) < (ts.length : Int) := by have := HTP.out; omega
 have m0 : 0 <= (z : Int) % (ts.length : Int) := Int.emod_nonneg _ (by omega)
 have m1 : (z : Int) % (ts.length : Int) < (ts.length : Int) := Int.emod_lt_of_pos _ s1
 obtain ⟨it, a, ht, hit⟩ := HTS.out.get (i := z % ts.length) (Nat.mod_lt _ HTP.out)
 obtain ⟨tb, to_, hA, hc⟩ := HT.out.atI ht
 have hc' := hc V4 (Below.refl _ _)
 obtain ⟨⟨x0, x1, x2, x3, x4⟩, x5, x6, x7, x8, x9⟩ := hc'
 have HI := Lib.hid (HF.out.item HR.out (List.mem_of_getElem? hit) a)
 have HTI := Lib.hid (HT.out.tr _ (List.mem_of_getElem? ht))
 rw [hA]
 clear hc ht hit hA
 go_upto_region 10 with fail
 clear x0 x1 x2 x3 x4 x5 x6 x7 x8 x9 m0 m1 s1
 have hb := ba V4 (trkO (trkOf it a))
 have hg := heap_alloc_new V4 (trkO (trkOf it a))
 replace HL := Lib.hid (HL.out.below hb)
 replace HT := Lib.hid (HT.out.below hb)
 replace HTI := Lib.hid (HTI.out.below hb)
 change Code.wp _ _ _ _ (V4.alloc (trkO (trkOf it a)))
 generalize (V4.alloc (trkO (trkOf it a))) = V4' at *
 generalize V4.heap.size = X at hg ⊢
 have HG := Lib.hid hg
 clear hb hg
 obtain ⟨⟨n0, n1, n2, n3, n4, n5⟩, p0, p1, p2, p3⟩ := HL.out.cells
 obtain ⟨⟨x0, x1, x2, x3, x4⟩, x5, x6, x7, x8, x9⟩   := trk_boxI HG.out
 go_wp2_with fail
 have hcall := way_any n nxA nxC nx it.post.frm it.post.dst it.post.acc V4' HL.out.nin HL.out.tab HIN.out.len HL.out.kw
 obtain ⟨o, ho⟩ := Int.eq_ofNat_of_zero_le HI.out.pst.2.1.1
 obtain ⟨d, hd⟩ := Int.eq_ofNat_of_zero_le HI.out.pst.2.2.1.1
 have hwt : wayTop n nx it.post.frm it.post.dst it.post.acc = wayR n nx d 19 o it.post.acc := by
  have h1 := HI.out.pst.2.1
  have h2 := HI.out.pst.2.2.1
  have h3 := HI.out.pst.2.2.2.2
  unfold wayTop
  rw [if_pos ⟨by unfold inB; simp; omega, by unfold inB; simp; omega, by unfold tOk; simp; omega, HF.out.sound, HF.out.form⟩, ho, hd, Int.toNat_natCast, Int.toNat_natCast]
 rw [hwt] at hcall
 have HOD := Lib.hid (And.intro ho hd)
 have HCALL := Lib.hid hcall
 clear hcall hwt ho hd
 with_reducible refine HCALL.out.mono ?_
 rintro e V5 ⟨hb, wA, wc, rfl, hwr⟩
 clear HCALL
 clear n0 n1 n2 n3 n4 n5 p0 p1 p2 p3
 clear x0 x1 x2 x3 x4 x5 x6 x7 x8 x9
 replace HL := Lib.hid (HL.out.below hb)
 replace HT := Lib.hid (HT.out.below hb)
 replace HTI := Lib.hid (HTI.out.below hb)
 replace HG := Lib.hid ((hb.block _ (block_lt HG.out)).trans HG.out)
 have HWR := Lib.hid hwr
 clear hb hwr
 generalize hway : wayR n nx d 19 o it.post.acc = way at HWR ⊢
 obtain ⟨we, wl⟩ := way
 have HWY := Lib.hid hway
 clear hway
 by_cases h0 : we = 0
 case neg =>
  have e1 : (we != 0) = true := by simpa using h0
  clear h0
  go_wp2_with fail
  go_ret
  exact ⟨rfl, HL.out.bel⟩
 subst h0
 obtain ⟨⟨n0, n1, n2, n3, n4, n5⟩, p0, p1, p2, p3⟩ := HL.out.cells
 obtain ⟨⟨x0, x1, x2, x3, x4⟩, x5, x6, x7, x8, x9⟩   := trk_boxI HG.out
 go_wp2_with fail
 have hcall := HL.out.clean HF.out it.post.label DC
 have HCALL := Lib.hid hcall
 clear hcall
 with_reducible refine HCALL.out.mono ?_
 rintro e V6 ⟨rfl, hb⟩
 clear HCALL
 clear n0 n1 n2 n3 n4 n5 p0 p1 p2 p3
 clear x0 x1 x2 x3 x4 x5 x6 x7 x8 x9
 replace HL := Lib.hid (HL.out.below hb)
 replace HT := Lib.hid (HT.out.below hb)
 replace HTI := Lib.hid (HTI.out.below hb)
 replace HG := Lib.hid ((hb.block _ (block_lt HG.out)).trans HG.out)
 replace HWR := Lib.hid (HWR.out.below hb)
 clear hb
 cases hcl : cleanB n nx ds it.post.label
 case false =>
  go_wp2_with fail
  go_ret
  exact ⟨rfl, HL.out.bel⟩
 have hw := clean_way HF.out.sound.1.good HF.out.form HR.out HF.out.ok HI.out.mem (cleanB_spec HR.out (run_ok HF.out.sound.1.good HF.out.form HR.out HF.out.ok).1.nodup HI.out.mem hcl) HOD.out.1 HOD.out.2 HWY.out
 obtain ⟨hw1, hw2, hw3⟩ := hw
 obtain ⟨⟨x0, x1, x2, x3, x4⟩, x5, x6, x7, x8, x9⟩   := trk_boxI HG.out
 have x5' : V6.cell? ⟨X, 5, none⟩ = some (.slice (some ⟨a.sB, 0, none⟩) wl.length a.sC) := by rw [<- hw1]; exact x5
 have x6' : V6.cell? ⟨X, 6, none⟩ = some (.bool false) := by rw [<- hw2]; exact x6
 have x8' : V6.cell? ⟨X, 8, none⟩ = some (.slice (some ⟨a.lB, 0, none⟩) 1 a.lC) := by have h9 : V6.cell? ⟨X, 8, none⟩ = some (.slice (some ⟨a.lB, 0, none⟩) it.labs.length a.lC) := x8; rw [hw3] at h9; exact h9
 have HST : Hid (Rd V6 (some ⟨a.sB, 0, none⟩) (wl.flatMap encSt)) := by rw [<- hw1]; exact HTI.out.st
 have HLA : Hid (Rd V6 (some ⟨a.lB, 0, none⟩) ([it.post.label].map sV)) := by rw [<- hw3]; exact HTI.out.la
 have HWL : Hid (wl.length <= 1000) := by rw [<- hw1]; exact HI.out.short.1
 clear x1 x2 x3 x4 x5 x6 x7 x8 x9 hw1 hw2 hw3 hcl
 go_wp2_with fail
 refine (stops_refl wl (some ⟨a.sB, 0, none⟩) wA a.sC wc V6 HST.out HWR.out HWL.out).mono ?_
 rintro e V7 ⟨rfl, hb⟩
 have x6 : V7.cell? ⟨X, 6, none⟩ = some (.bool false) := cell_keepD hb x6'
 have x8 : V7.cell? ⟨X, 8, none⟩ = some (.slice (some ⟨a.lB, 0, none⟩) 1 a.lC) := cell_keepD hb x8'
 have x0' : V7.cell? ⟨X, 0, none⟩ = some (sV it.post.label) := cell_keepD hb x0
 replace HL := Lib.hid (HL.out.below hb)
 replace HT := Lib.hid (HT.out.below hb)
 replace HTI := Lib.hid (HTI.out.below hb)
 replace HLA := Lib.hid (HLA.out.below hb)
 clear hb x0 x5' x6' x8'
 go_wp2_with fail
 have hbn := ba V7 (.cells #[sV it.post.label] 9)
 refine (strs_refl [it.post.label] (some ⟨a.lB, 0, none⟩) (some ⟨V7.heap.size, 0, none⟩) a.lC 1 _ (HLA.out.below hbn) (rd_block (heap_alloc_new V7 _)) (by simp)).mono ?_
 rintro e V8 ⟨rfl, hb⟩
 have HB8 : Hid (Below w.heap.size w V8) := HL.out.bel.trans ((bt hbn hb).mono HL.out.bel.size)
 clear hb hbn x6 x8 x0'
 go_wp2_with fail
 go_ret
 exact ⟨rfl, HB8.out⟩
end
end Go.Proofs.YtpeaiphdkgifaaaGreatDoor
