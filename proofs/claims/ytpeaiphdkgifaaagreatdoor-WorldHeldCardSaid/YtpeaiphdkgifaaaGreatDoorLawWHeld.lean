/-
  The walk over the law WorldHeld.
-/
import Derived.Test.YtpeaiphdkgifaaaGreatDoorWxWHeld
namespace Go.Proofs.YtpeaiphdkgifaaaGreatDoor
open Go.RowKit
set_option maxHeartbeats 20000000
set_option maxRecDepth 100000
section
attribute [local go_sem] Oper.semAt_some
abbrev pstO (x : Pst) : Obj := .cells #[sV x.label, iV x.frm, iV x.dst, iV x.cls, iV x.acc] 42
theorem rd_take4 {w : World} {A : Option Addr} {l : List St} (h : Rd w A (l.flatMap encSt)) (k : Nat) : Rd w A ((l.take k).flatMap encSt) := by
 have e : l.flatMap encSt = (l.take k).flatMap encSt ++ (l.drop k).flatMap encSt := by rw [<- List.flatMap_append, List.take_append_drop]
 have h1 := h.take ((l.take k).flatMap encSt).length
 rw [e, List.take_left] at h1
 exact h1
theorem path_lastAt {n : Net} {it : Itm} (h : ItOk n it) {p : Nat} (hp : p + 1 = it.stops.length) : ∃ s, it.stops[p]? = some s /\ s.depart = -1 /\ s.line = -1 := by
 have h1 := path_last h.path
 have h2 : it.stops[p]? = some (lastSt it.stops) := by
  unfold lastSt
  rw [List.getLastD_eq_getLast?, List.getLast?_eq_getElem?, show it.stops.length - 1 = p by omega, List.getElem?_eq_getElem (by omega)]
  rfl
 exact ⟨_, h2, h1.1, h1.2⟩
abbrev hpostD (x : Pst) : Ded := ⟨1, x.acc, x, [], [], 0⟩
abbrev holdD (x : Pst) (T : Int) : Ded := ⟨3, T, ⟨[], 0, 0, 0, 0⟩, x.label, [], 0⟩
theorem wheld_any (n : Net) (fr till : Int) (nx : List NsC) (nxA : Option Addr) (nxC : Nat) (D : Option Addr) (dl dc : Nat) (x : Pst) (z : Nat) (w : World) (hn : NetIn w n) (hT : Tab w nxA nx) (hx : nx.length <= maxLen) (hp : PostIn x) (hk : KW w) (hw : PW w) (hz : z <= 65535) :
  Calls Tryz.prog 6 #[netV n, planV fr till nxA nx.length nxC D dl dc, .agg #[sV x.label, iV x.frm, iV x.dst, iV x.cls, iV x.acc], u16V z] w fun e w' => e = .returned (.bool true) /\ Below w.heap.size w w' := by
 have HIN : Hid (LawIn w n nx nxA none 0 []) := ⟨hn, hT, hx, Rd.nil w _, by simp, (fun d hd => by cases hd), hk, hw⟩
 have HL := Lib.hid (LwW.start (fr := fr) (till := till) (nxC := nxC) (D := D) (dl := dl) (dc := dc) HIN.out)
 have HPI := Lib.hid hp
 clear hn hT hx hp hk hw
 go_enter Tryz.func6, Tryz.ntmps6
 go_upto_region 1 with fail
 change Code.wp _ _ _ _ ((allocs w (runObjs n fr till nxA nx.length nxC D dl dc)).alloc (pstO x))
 have hg := heap_alloc_new (allocs w (runObjs n fr till nxA nx.length nxC D dl dc)) (pstO x)
 replace HL := Lib.hid (HL.out.below (ba _ (pstO x)))
 have hys : (allocs w (runObjs n fr till nxA nx.length nxC D dl dc)).heap.size = w.heap.size + 1 + 1 := allocs_size (runObjs n fr till nxA nx.length nxC D dl dc) w
 rw [hys] at hg
 clear hys
 generalize ((allocs w (runObjs n fr till nxA nx.length nxC D dl dc)).alloc (pstO x)) = V1 at HL hg ⊢
 generalize hN : w.heap.size = N at HL hg ⊢
 rw [<- hN] at HL
 have HL : Hid (LwW w n fr till nx nxA nxC D dl dc none [] N (N + 1) V1) := by have h9 := HL.out; rw [hN] at h9; exact h9
 generalize hP : N + 1 = P at HL hg ⊢
 generalize hY : P + 1 = Y at hg ⊢
 have HY := Lib.hid hg
 clear hN hP hY hg
 go_wp2_with fail
 refine (headW_any V1 HL.out.kw HL.out.pw).mono ?_
 rintro e V2 ⟨rfl, hb⟩
 replace HL := Lib.hid (HL.out.below hb)
 replace HY := Lib.hid ((hb.block _ (block_lt HY.out)).trans HY.out)
 clear hb
 have y0 := cell_of_row _ _ 0 _ _ _ HY.out
 have y1 := cell_of_row _ _ 1 _ _ _ HY.out
 have y2 := cell_of_row _ _ 2 _ _ _ HY.out
 have y3 := cell_of_row _ _ 3 _ _ _ HY.out
 have y4 := cell_of_row _ _ 4 _ _ _ HY.out
 go_upto_region 3 with fail
 clear y0 y1 y2 y3 y4
 have hb := ba V2 (dedO (hpostD x))
 have hg := heap_alloc_new V2 (dedO (hpostD x))
 replace HL := Lib.hid (HL.out.below hb)
 replace HY := Lib.hid ((hb.block _ (block_lt HY.out)).trans HY.out)
 change Code.wp _ _ _ _ (V2.alloc (dedO (hpostD x)))
 generalize (V2.alloc (dedO (hpostD x))) = V2' at *
 generalize V2.heap.size = R at *
 have HPO := Lib.hid hg
 clear hb hg
 have y0 := cell_of_row _ _ 0 _ _ _ HY.out
 have y1 := cell_of_row _ _ 1 _ _ _ HY.out
 have y2 := cell_of_row _ _ 2 _ _ _ HY.out
 have y3 := cell_of_row _ _ 3 _ _ _ HY.out
 have y4 := cell_of_row _ _ 4 _ _ _ HY.out
 go_upto_region 4 with fail
 clear y0 y1 y2 y3 y4
 generalize wrap64 (x.acc + (z : Int)) = T
 have hb := ba V2' (dedO (holdD x T))
 have hg := heap_alloc_new V2' (dedO (holdD x T))
 replace HL := Lib.hid (HL.out.below hb)
 replace HY := Lib.hid ((hb.block _ (block_lt HY.out)).trans HY.out)
 replace HPO := Lib.hid ((hb.block _ (block_lt HPO.out)).trans HPO.out)
 change Code.wp _ _ _ _ (V2'.alloc (dedO (holdD x T)))
 generalize (V2'.alloc (dedO (holdD x T))) = V3 at *
 generalize V2'.heap.size = Q at *
 have HHO := Lib.hid hg
 clear hb hg
 obtain ⟨⟨n0, n1, n2, n3, n4, n5⟩, p0, p1, p2, p3⟩ := HL.out.cells
 have d0 := cell_of_row _ _ 0 _ _ _ HPO.out
 have d1 := cell_of_row _ _ 1 _ _ _ HPO.out
 have d2 := cell_of_row _ _ 2 _ _ _ HPO.out
 have d3 := cell_of_row _ _ 3 _ _ _ HPO.out
 have d4 := cell_of_row _ _ 4 _ _ _ HPO.out
 have d5 := cell_of_row _ _ 5 _ _ _ HPO.out
 have d6 := cell_of_row _ _ 6 _ _ _ HPO.out
 have d7 := cell_of_row _ _ 7 _ _ _ HPO.out
 have d8 := cell_of_row _ _ 8 _ _ _ HPO.out
 have d9 := cell_of_row _ _ 9 _ _ _ HPO.out
 have h0 := cell_of_row _ _ 0 _ _ _ HHO.out
 have h1 := cell_of_row _ _ 1 _ _ _ HHO.out
 have h2 := cell_of_row _ _ 2 _ _ _ HHO.out
 have h3 := cell_of_row _ _ 3 _ _ _ HHO.out
 have h4 := cell_of_row _ _ 4 _ _ _ HHO.out
 have h5 := cell_of_row _ _ 5 _ _ _ HHO.out
 have h6 := cell_of_row _ _ 6 _ _ _ HHO.out
 have h7 := cell_of_row _ _ 7 _ _ _ HHO.out
 have h8 := cell_of_row _ _ 8 _ _ _ HHO.out
 have h9 := cell_of_row _ _ 9 _ _ _ HHO.out
 go_wp2_with fail
 have hbn := ba V3 (.cells ((encD (hpostD x)) ++ (encD (holdD x T))).toArray 44)
 have hcall := fine_any n fr till nx nxA nxC D dl dc (some ⟨V3.heap.size, 0, none⟩) 2 [hpostD x, holdD x T] _ (HL.out.nin.below hbn) (HL.out.tab.below hbn) HIN.out.len (rd_block (heap_alloc_new V3 (.cells ((encD (hpostD x)) ++ (encD (holdD x T))).toArray 44))) (by simp) (fun d hd => by
  rcases List.mem_cons.1 hd with rfl | hd
  ·exact HPI.out.1
  ·rw [List.mem_singleton.1 hd]; simp)
 have HCALL := Lib.hid hcall
 have HBN := Lib.hid hbn
 clear hcall hbn
 refine HCALL.out.mono ?_
 rintro e V4 ⟨⟨b, rfl, hf⟩, hb⟩
 clear HCALL
 clear n0 n1 n2 n3 n4 n5 p0 p1 p2 p3
 clear d0 d1 d2 d3 d4 d5 d6 d7 d8 d9
 clear h0 h1 h2 h3 h4 h5 h6 h7 h8 h9
 replace hb := bt HBN.out hb
 clear HBN
 replace HL := Lib.hid (HL.out.below hb)
 replace HY := Lib.hid ((hb.block _ (block_lt HY.out)).trans HY.out)
 replace HPO := Lib.hid ((hb.block _ (block_lt HPO.out)).trans HPO.out)
 replace HHO := Lib.hid ((hb.block _ (block_lt HHO.out)).trans HHO.out)
 clear hb
 have HFF := Lib.hid hf
 clear hf
 cases b
 case false =>
  go_wp2_with fail
  go_ret
  exact ⟨rfl, HL.out.bel⟩
 have HF := Lib.hid (HFF.out rfl)
 clear HFF
 have HD2 : Hid (DedsOk n [] 0 [hpostD x, holdD x T]) := HF.out.ok
 have HD1 : Hid (DedsOk n [] 0 [hpostD x]) := ⟨HD2.out.1, HD2.out.2.1, HD2.out.2.2.1, trivial⟩
 obtain ⟨⟨n0, n1, n2, n3, n4, n5⟩, p0, p1, p2, p3⟩ := HL.out.cells
 have d0 := cell_of_row _ _ 0 _ _ _ HPO.out
 have d1 := cell_of_row _ _ 1 _ _ _ HPO.out
 have d2 := cell_of_row _ _ 2 _ _ _ HPO.out
 have d3 := cell_of_row _ _ 3 _ _ _ HPO.out
 have d4 := cell_of_row _ _ 4 _ _ _ HPO.out
 have d5 := cell_of_row _ _ 5 _ _ _ HPO.out
 have d6 := cell_of_row _ _ 6 _ _ _ HPO.out
 have d7 := cell_of_row _ _ 7 _ _ _ HPO.out
 have d8 := cell_of_row _ _ 8 _ _ _ HPO.out
 have d9 := cell_of_row _ _ 9 _ _ _ HPO.out
 go_wp2_with fail
 have hbn := ba V4 (.cells (encD (hpostD x)).toArray 44)
 have hcall := (HL.out.below hbn).run HF.out.sound HF.out.form HF.out.six (ds' := [hpostD x]) (m := 1) rfl HD1.out (by simp) (some ⟨V4.heap.size, 0, none⟩) 1 (rd_block (heap_alloc_new V4 (.cells (encD (hpostD x)).toArray 44)))
 have HCALL := Lib.hid hcall
 have HBN := Lib.hid hbn
 clear hcall hbn
 refine HCALL.out.mono ?_
 rintro e V5 ⟨hb, hR⟩
 clear HCALL
 clear n0 n1 n2 n3 n4 n5 p0 p1 p2 p3
 clear d0 d1 d2 d3 d4 d5 d6 d7 d8 d9
 replace hb := bt HBN.out hb
 clear HBN
 replace HL := Lib.hid (HL.out.below hb)
 replace HY := Lib.hid ((hb.block _ (block_lt HY.out)).trans HY.out)
 replace HPO := Lib.hid ((hb.block _ (block_lt HPO.out)).trans HPO.out)
 replace HHO := Lib.hid ((hb.block _ (block_lt HHO.out)).trans HHO.out)
 clear hb
 rcases hR with ⟨hr, rfl⟩ | ⟨g1, ts1, A1, c1, hr, hts, rfl, hT⟩
 case inl =>
  clear hr
  obtain ⟨⟨n0, n1, n2, n3, n4, n5⟩, p0, p1, p2, p3⟩ := HL.out.cells
  have d0 := cell_of_row _ _ 0 _ _ _ HPO.out
  have d1 := cell_of_row _ _ 1 _ _ _ HPO.out
  have d2 := cell_of_row _ _ 2 _ _ _ HPO.out
  have d3 := cell_of_row _ _ 3 _ _ _ HPO.out
  have d4 := cell_of_row _ _ 4 _ _ _ HPO.out
  have d5 := cell_of_row _ _ 5 _ _ _ HPO.out
  have d6 := cell_of_row _ _ 6 _ _ _ HPO.out
  have d7 := cell_of_row _ _ 7 _ _ _ HPO.out
  have d8 := cell_of_row _ _ 8 _ _ _ HPO.out
  have d9 := cell_of_row _ _ 9 _ _ _ HPO.out
  have h0 := cell_of_row _ _ 0 _ _ _ HHO.out
  have h1 := cell_of_row _ _ 1 _ _ _ HHO.out
  have h2 := cell_of_row _ _ 2 _ _ _ HHO.out
  have h3 := cell_of_row _ _ 3 _ _ _ HHO.out
  have h4 := cell_of_row _ _ 4 _ _ _ HHO.out
  have h5 := cell_of_row _ _ 5 _ _ _ HHO.out
  have h6 := cell_of_row _ _ 6 _ _ _ HHO.out
  have h7 := cell_of_row _ _ 7 _ _ _ HHO.out
  have h8 := cell_of_row _ _ 8 _ _ _ HHO.out
  have h9 := cell_of_row _ _ 9 _ _ _ HHO.out
  go_wp2_with fail
  have hbn := ba V5 (.cells ((encD (hpostD x)) ++ (encD (holdD x T))).toArray 44)
  have hcall := (HL.out.below hbn).run HF.out.sound HF.out.form HF.out.six (ds' := [hpostD x, holdD x T]) (m := 2) rfl HD2.out (by simp) (some ⟨V5.heap.size, 0, none⟩) 2 (rd_block (heap_alloc_new V5 (.cells ((encD (hpostD x)) ++ (encD (holdD x T))).toArray 44)))
  have HCALL := Lib.hid hcall
  have HBN := Lib.hid hbn
  clear hcall hbn
  refine HCALL.out.mono ?_
  rintro e V6 ⟨hb, hR⟩
  clear HCALL
  clear n0 n1 n2 n3 n4 n5 p0 p1 p2 p3
  clear d0 d1 d2 d3 d4 d5 d6 d7 d8 d9
  clear h0 h1 h2 h3 h4 h5 h6 h7 h8 h9
  replace hb := bt HBN.out hb
  clear HBN
  replace HL := Lib.hid (HL.out.below hb)
  replace HY := Lib.hid ((hb.block _ (block_lt HY.out)).trans HY.out)
  replace HPO := Lib.hid ((hb.block _ (block_lt HPO.out)).trans HPO.out)
  replace HHO := Lib.hid ((hb.block _ (block_lt HHO.out)).trans HHO.out)
  clear hb
  rcases hR with ⟨hr, rfl⟩ | ⟨g2, ts2, A2, c2, hr, hts, rfl, hT⟩
  all_goals
   go_wp2_with fail
   go_ret
   exact ⟨rfl, HL.out.bel⟩
 have HR1 := Lib.hid hr
 have HTS1 := Lib.hid hts
 have HT1 := Lib.hid hT
 clear hr hts hT
 obtain ⟨⟨n0, n1, n2, n3, n4, n5⟩, p0, p1, p2, p3⟩ := HL.out.cells
 have d0 := cell_of_row _ _ 0 _ _ _ HPO.out
 have d1 := cell_of_row _ _ 1 _ _ _ HPO.out
 have d2 := cell_of_row _ _ 2 _ _ _ HPO.out
 have d3 := cell_of_row _ _ 3 _ _ _ HPO.out
 have d4 := cell_of_row _ _ 4 _ _ _ HPO.out
 have d5 := cell_of_row _ _ 5 _ _ _ HPO.out
 have d6 := cell_of_row _ _ 6 _ _ _ HPO.out
 have d7 := cell_of_row _ _ 7 _ _ _ HPO.out
 have d8 := cell_of_row _ _ 8 _ _ _ HPO.out
 have d9 := cell_of_row _ _ 9 _ _ _ HPO.out
 have h0 := cell_of_row _ _ 0 _ _ _ HHO.out
 have h1 := cell_of_row _ _ 1 _ _ _ HHO.out
 have h2 := cell_of_row _ _ 2 _ _ _ HHO.out
 have h3 := cell_of_row _ _ 3 _ _ _ HHO.out
 have h4 := cell_of_row _ _ 4 _ _ _ HHO.out
 have h5 := cell_of_row _ _ 5 _ _ _ HHO.out
 have h6 := cell_of_row _ _ 6 _ _ _ HHO.out
 have h7 := cell_of_row _ _ 7 _ _ _ HHO.out
 have h8 := cell_of_row _ _ 8 _ _ _ HHO.out
 have h9 := cell_of_row _ _ 9 _ _ _ HHO.out
 go_wp2_with fail
 have hbn := ba V5 (.cells ((encD (hpostD x)) ++ (encD (holdD x T))).toArray 44)
 have hcall := (HL.out.below hbn).run HF.out.sound HF.out.form HF.out.six (ds' := [hpostD x, holdD x T]) (m := 2) rfl HD2.out (by simp) (some ⟨V5.heap.size, 0, none⟩) 2 (rd_block (heap_alloc_new V5 (.cells ((encD (hpostD x)) ++ (encD (holdD x T))).toArray 44)))
 have HCALL := Lib.hid hcall
 have HBN := Lib.hid hbn
 clear hcall hbn
 refine HCALL.out.mono ?_
 rintro e V6 ⟨hb, hR⟩
 clear HCALL
 clear n0 n1 n2 n3 n4 n5 p0 p1 p2 p3
 clear d0 d1 d2 d3 d4 d5 d6 d7 d8 d9
 clear h0 h1 h2 h3 h4 h5 h6 h7 h8 h9
 replace hb := bt HBN.out hb
 clear HBN
 replace HL := Lib.hid (HL.out.below hb)
 replace HY := Lib.hid ((hb.block _ (block_lt HY.out)).trans HY.out)
 replace HPO := Lib.hid ((hb.block _ (block_lt HPO.out)).trans HPO.out)
 replace HHO := Lib.hid ((hb.block _ (block_lt HHO.out)).trans HHO.out)
 replace HT1 := Lib.hid (HT1.out.below hb)
 clear hb
 rcases hR with ⟨hr, rfl⟩ | ⟨g2, ts2, A2, c2, hr, hts, rfl, hT⟩
 case inl =>
  clear hr
  go_wp2_with fail
  go_ret
  exact ⟨rfl, HL.out.bel⟩
 have HR2 := Lib.hid hr
 have HTS2 := Lib.hid hts
 have HT2 := Lib.hid hT
 clear hr hts hT
 obtain ⟨e, f, k, s, t, he, hf, hek, hfk, htk, hbef, hstop, hend⟩ := held_end HF.out.sound.1.good HF.out.form (p := postD x) (q := holdD x T) rfl rfl rfl HD2.out HR1.out HR2.out
 have hl1 : ts1.length = 1 := by rw [HTS1.out.len, he]; rfl
 have hl2 : ts2.length = 1 := by rw [HTS2.out.len, hf]; rfl
 obtain ⟨it1, a1, ht1, hi1⟩ := HTS1.out.get (i := 0) (by omega)
 obtain ⟨it2, a2, ht2, hi2⟩ := HTS2.out.get (i := 0) (by omega)
 rw [he] at hi1
 rw [hf] at hi2
 obtain rfl : e = it1 := by simpa using hi1
 obtain rfl : f = it2 := by simpa using hi2
 obtain ⟨b1, o1, hA1, hc1⟩ := HT1.out.atI ht1
 obtain ⟨b2, o2, hA2, hc2⟩ := HT2.out.atI ht2
 have HC1 : Hid (∀ W, Below V6.heap.size V6 W -> W.cell? ⟨b1, o1 + 5, none⟩ = some (.slice (some ⟨a1.sB, 0, none⟩) e.stops.length a1.sC)) := fun W hb => by have := (hc1 W hb).2.1; rwa [Nat.zero_mul, Nat.add_zero] at this
 have HC2 : Hid (∀ W, Below V6.heap.size V6 W -> W.cell? ⟨b2, o2 + 5, none⟩ = some (.slice (some ⟨a2.sB, 0, none⟩) f.stops.length a2.sC)) := fun W hb => by have := (hc2 W hb).2.1; rwa [Nat.zero_mul, Nat.add_zero] at this
 have HTI1 := Lib.hid (HT1.out.tr _ (List.mem_of_getElem? ht1))
 have HTI2 := Lib.hid (HT2.out.tr _ (List.mem_of_getElem? ht2))
 have hS1 := (HF.out.item HR2.out (by rw [hf]; exact List.mem_singleton.2 rfl) a2).short.1
 have hI1 : e.stops.length <= 20 := by
  have F1 : FineP n nx [hpostD x] := ⟨HF.out.few, HF.out.six, by simp, HF.out.sound, HF.out.form, HD1.out⟩
  exact (F1.item HR1.out (by rw [he]; exact List.mem_singleton.2 rfl) a1).ok.len
 have hI2 : f.stops.length <= 20 := (HF.out.item HR2.out (by rw [hf]; exact List.mem_singleton.2 rfl) a2).ok.len
 have hk1 : k + 1 <= e.stops.length := by have := (List.getElem?_eq_some_iff.1 hek).1; omega
 have hk2 : k + 1 <= f.stops.length := by have := (List.getElem?_eq_some_iff.1 hfk).1; omega
 have HEK := Lib.hid hek
 have HFK := Lib.hid hfk
 have HTK := Lib.hid htk
 have HBF := Lib.hid hbef
 have HST := Lib.hid hstop
 have HEN := Lib.hid hend
 have HDP : Hid (s.line ≠ -1 -> 0 <= s.depart /\ s.depart <= 2200000) := fun h => by
  have F1 : FineP n nx [hpostD x] := ⟨HF.out.few, HF.out.six, by simp, HF.out.sound, HF.out.form, HD1.out⟩
  have hit := (F1.item HR1.out (by rw [he]; exact List.mem_singleton.2 rfl) a1).ok
  by_cases hl : k + 1 = e.stops.length
  ·obtain ⟨u, h1, -, h3⟩ := path_lastAt hit hl
   rw [hek] at h1
   cases h1
   exact absurd h3 h
  ·obtain ⟨u, hu⟩ : ∃ u, e.stops[k + 1]? = some u := ⟨_, List.getElem?_eq_getElem (by omega)⟩
   obtain ⟨e', -, H⟩ := path_get hit.path hek hu
   have := H.dep
   omega
 rw [hl1, hl2, hA1, hA2]
 clear hS1 he hf hek hfk htk hbef hstop hend hl1 hl2 ht1 ht2 hi1 hi2 hA1 hA2 hc1 hc2 HT1 HT2
 have u1 : V6.cell? ⟨b1, o1 + 5, none⟩ = some (.slice (some ⟨a1.sB, 0, none⟩) e.stops.length a1.sC) := HC1.out _ (Below.refl _ _)
 have g1 : ((e.stops.length : Int) == 0) = false := by rw [beq_eq_false_iff_ne]; omega
 go_upto_region 13 with fail
 clear u1 g1
 go_loopw [16] (fun i wr => ∃ m q : Nat, m <= k /\ i = iV m /\ wr = V6.drewN q) (fun i _ => 22 - (intOf i).toNat)
 case atStart => exact ⟨0, 0, Nat.zero_le _, rfl, rfl⟩
 case round =>
 obtain ⟨m, q, hm, rfl, rfl⟩ := hrel
 have u1 : V6.cell? ⟨b1, o1 + 5, none⟩ = some (.slice (some ⟨a1.sB, 0, none⟩) e.stops.length a1.sC) := HC1.out _ (Below.refl _ _)
 have w1 : V6.cell? ⟨Q, 1, none⟩ = some (iV T) := cell_of_row _ _ 1 _ _ _ HHO.out
 have m0 : (0 : Int) <= (m : Int) := by omega
 have em : IntKind.i64.wrap ((m : Int) + 1) = (m : Int) + 1 := IntWalk.i64_in _ (by omega)
 have m2 : (m : Int) < (e.stops.length : Int) := by omega
 obtain ⟨r, hr⟩ : ∃ r, e.stops[m]? = some r := ⟨_, List.getElem?_eq_getElem (by omega)⟩
 obtain ⟨-, sb, so, hsA, -, -, yj⟩ := elem_at encSt_len HTI1.out.st hr (by omega)
 cases hsA
 have r2 : V6.cell? ⟨a1.sB, m * 4 + 2, none⟩ = some (iV r.depart) := by have := yj 2 _ rfl; rwa [Nat.zero_add] at this
 have HRR := Lib.hid hr
 clear yj hr
 by_cases hmk : m < k
 case pos =>
  have hrT : r.depart < T := by
   obtain ⟨u, hu1, hu2⟩ := HBF.out m hmk
   rw [HRR.out] at hu1
   cases hu1
   exact hu2
  have c1 : decide ((m : Int) + 1 < (e.stops.length : Int)) = true := decide_eq_true (by omega)
  have c2 : decide (r.depart < T) = true := decide_eq_true hrT
  have HMK := Lib.hid hmk
  clear hmk hrT
  go_wp2_with fail
  go_quiet (fail)
  go_wp2_with fail
  go_roundw
  case rel => exact ⟨m + 1, q + nq, HMK.out, by go_num, by simp⟩
  case measure => have := HMK.out; simp [intOf]; omega
 obtain rfl : m = k := by omega
 have hsr : r = s := by have h1 := HRR.out; rw [HEK.out] at h1; exact (Option.some.inj h1).symm
 subst hsr
 have HBQ : Hid (∀ nq, Below V6.heap.size V6 (V6.drewN nq)) := fun nq => below_drewN (Below.refl _ _) _
 have HBR : Hid (∀ a b, Below V6.heap.size V6 ((V6.drewN a).drewN b).drew) := fun a b => b_drew (below_drewN (below_drewN (Below.refl _ _) _) _)
 have hexit : decide ((m : Int) + 1 < (e.stops.length : Int)) = false ∨ (decide ((m : Int) + 1 < (e.stops.length : Int)) = true /\ decide (r.depart < T) = false) := by
  rcases HST.out with h | ⟨h1, h2⟩
  ·exact .inl (decide_eq_false (by omega))
  ·exact .inr ⟨decide_eq_true (by omega), decide_eq_false (by have h3 : T <= r.depart := h2; omega)⟩
 have HSQ : Hid (∀ W, Below V6.heap.size V6 W -> W.cell? ⟨b1, o1 + 5, none⟩ = some (.slice (some ⟨a1.sB, 0, none⟩) e.stops.length a1.sC) /\ W.cell? ⟨b2, o2 + 5, none⟩ = some (.slice (some ⟨a2.sB, 0, none⟩) f.stops.length a2.sC)) := fun W hb => ⟨HC1.out W hb, HC2.out W hb⟩
 have htl : (e.stops.take m).length = m := by rw [List.length_take]; omega
 have HCC : Hid (∀ W, Below V6.heap.size V6 W -> Calls Tryz.prog 18 #[.slice (some ⟨a1.sB, 0, none⟩) m a1.sC, .slice (some ⟨a2.sB, 0, none⟩) m a2.sC] W fun e w' => e = .returned (.bool true) /\ Below W.heap.size W w') := fun W hb => by
  have h1 := stops_refl (e.stops.take m) (some ⟨a1.sB, 0, none⟩) (some ⟨a2.sB, 0, none⟩) a1.sC a2.sC W (rd_take4 (HTI1.out.st.below hb) m) (by rw [HTK.out]; exact rd_take4 (HTI2.out.st.below hb) m) (by omega)
  rwa [htl] at h1
 have cap1 : m <= a1.sC := by have h1 : e.stops.length <= a1.sC := HTI1.out.cap; omega
 have cap2 : m <= a2.sC := by have h1 : f.stops.length <= a2.sC := HTI2.out.cap; omega
 have cap1' : (m : Int) <= (a1.sC : Int) := by omega
 have cap2' : (m : Int) <= (a2.sC : Int) := by omega
 have f1 : decide ((f.stops.length : Int) <= (m : Int)) = false := decide_eq_false (by omega)
 have f2 : decide (f.stops.length <= m) = false := decide_eq_false (by omega)
 have mf : (m : Int) < (f.stops.length : Int) := by omega
 clear hm hmk htl
 rcases hexit with hx | ⟨hx1, hx2⟩
 all_goals
  go_wp2_with fail
  go_quiet (fail)
  clear u1 w1 r2 em
  go_wp2_with fail
  go_region_held3 (fun w' => w'.cell? ⟨b1, o1 + 5, none⟩ = some (.slice (some ⟨a1.sB, 0, none⟩) e.stops.length a1.sC) /\ w'.cell? ⟨b2, o2 + 5, none⟩ = some (.slice (some ⟨a2.sB, 0, none⟩) f.stops.length a2.sC)) (first | (with_reducible exact HSQ.out _ (HBQ.out _)) | (with_reducible exact HSQ.out _ (HBR.out _ _)) | (with_reducible exact HSQ.out _ HU1.out)) (first
    | (go_at_call 18; refine (HCC.out _ (HBQ.out _)).mono ?_; rintro e u1 ⟨rfl, hb1⟩; have HU1 := Lib.hid (bt (HBQ.out _) hb1); clear hb1)
    | fail)
  clear HSQ HCC HBQ HBR f1 f2 cap1 cap2 cap1' cap2'
  obtain ⟨-, sb, so, hsA, -, p0, pj⟩ := elem_at encSt_len (HTI1.out.st.below HU1.out) HEK.out (by omega)
  cases hsA
  obtain ⟨-, sb, so, hsA, -, q0, qj⟩ := elem_at encSt_len (HTI2.out.st.below HU1.out) HFK.out (by omega)
  cases hsA
  have s0 : u1.cell? ⟨a1.sB, m * 4, none⟩ = some (iV r.office) := by have := p0 _ rfl; rwa [Nat.zero_add] at this
  have s1 : u1.cell? ⟨a1.sB, m * 4 + 1, none⟩ = some (iV r.arrive) := by have := pj 1 _ rfl; rwa [Nat.zero_add] at this
  have s2 : u1.cell? ⟨a1.sB, m * 4 + 2, none⟩ = some (iV r.depart) := by have := pj 2 _ rfl; rwa [Nat.zero_add] at this
  have s3 : u1.cell? ⟨a1.sB, m * 4 + 3, none⟩ = some (iV r.line) := by have := pj 3 _ rfl; rwa [Nat.zero_add] at this
  have v1 := HC1.out _ HU1.out
  clear p0 pj
  go_upto_region 18 with fail
  clear s0 s1 s2 s3 v1
  have hb := ba u1 (.cells #[iV r.office, iV r.arrive, iV r.depart, iV r.line] 50)
  have hg := heap_alloc_new u1 (.cells #[iV r.office, iV r.arrive, iV r.depart, iV r.line] 50)
  have t0 := cell_keepD hb (q0 _ rfl)
  have t1 := cell_keepD hb (qj 1 _ rfl)
  have t2 := cell_keepD hb (qj 2 _ rfl)
  have t3 := cell_keepD hb (qj 3 _ rfl)
  rw [Nat.zero_add] at t0 t1 t2 t3
  replace HU1 := Lib.hid (bt HU1.out hb)
  have v2 := HC2.out _ HU1.out
  change Code.wp _ _ _ _ (u1.alloc (.cells #[iV r.office, iV r.arrive, iV r.depart, iV r.line] 50))
  clear q0 qj hb
  generalize (u1.alloc (.cells #[iV r.office, iV r.arrive, iV r.depart, iV r.line] 50)) = u2 at *
  generalize u1.heap.size = S1 at *
  go_upto_region 19 with fail
  clear t0 t1 t2 t3 v2
  have hb := ba u2 (.cells #[iV t.office, iV t.arrive, iV t.depart, iV t.line] 50)
  have hg2 := heap_alloc_new u2 (.cells #[iV t.office, iV t.arrive, iV t.depart, iV t.line] 50)
  replace hg := (hb.block _ (block_lt hg)).trans hg
  replace HU1 := Lib.hid (bt HU1.out hb)
  change Code.wp _ _ _ _ (u2.alloc (.cells #[iV t.office, iV t.arrive, iV t.depart, iV t.line] 50))
  clear hb
  generalize (u2.alloc (.cells #[iV t.office, iV t.arrive, iV t.depart, iV t.line] 50)) = u3 at *
  generalize u2.heap.size = S2 at *
  have s0 := cell_of_row _ _ 0 _ _ _ hg
  have s1 := cell_of_row _ _ 1 _ _ _ hg
  have s2 := cell_of_row _ _ 2 _ _ _ hg
  have s3 := cell_of_row _ _ 3 _ _ _ hg
  have t0 := cell_of_row _ _ 0 _ _ _ hg2
  have t1 := cell_of_row _ _ 1 _ _ _ hg2
  have t2 := cell_of_row _ _ 2 _ _ _ hg2
  have t3 := cell_of_row _ _ 3 _ _ _ hg2
  have HG1 := Lib.hid hg
  have HG2 := Lib.hid hg2
  clear hg hg2
  have HBZ : Hid (Below w.heap.size w u3) := HL.out.bel.trans (HU1.out.mono HL.out.bel.size)
  rcases HEN.out with ⟨z1, z2⟩ | ⟨z1, z2, z3⟩
  case inl =>
   subst z2
   have e1 : (t.line == -1) = true := by simpa using z1
   clear z1 HEN HG1 HG2
   go_wp2_with fail
   go_ret
   exact ⟨by simp, HBZ.out⟩
  have e1 : (r.line == -1) = false := by rw [beq_eq_false_iff_ne]; omega
  have HLW := Lib.hid (HL.out.below HU1.out)
  have hdp : 0 <= r.depart /\ r.depart <= 2200000 := HDP.out (by omega)
  obtain ⟨dp0, dp1⟩ := hdp
  have HZ3 := Lib.hid z3
  clear z3 HEN
  obtain ⟨⟨n0, n1, n2, n3, n4, n5⟩, -, -, -, -⟩ := HLW.out.cells
  go_wp2_with fail
  refine (dep13_any n r.line (r.depart + 1) u3 HLW.out.nin HF.out.few HF.out.sound z1 z2).mono ?_
  rintro e u4 ⟨rfl, hb⟩
  have HBY : Hid (Below w.heap.size w u4) := HBZ.out.trans (hb.mono HBZ.out.size)
  clear n0 n1 n2 n3 n4 n5 s0 s1 s2 s3 t0 t1 t2 t3
  have s3 := cell_keepD hb (cell_of_row _ _ 3 _ _ _ HG1.out)
  have t2 := cell_keepD hb (cell_of_row _ _ 2 _ _ _ HG2.out)
  have t3 := cell_keepD hb (cell_of_row _ _ 3 _ _ _ HG2.out)
  clear hb HG1 HG2
  cases hde : ((depT n r.line (r.depart + 1)).2 != 0)
  case true =>
   have z4 : t.depart = -1 := by
    have h1 := HZ3.out
    rw [if_neg (by simpa using hde)] at h1
    exact h1
   have e2 : (t.depart == -1) = true := by simpa using z4
   clear z4
   go_wp2_with fail
   go_ret
   exact ⟨rfl, HBY.out⟩
  have z4 : t.line = r.line /\ t.depart = (depT n r.line (r.depart + 1)).1 := by
   have h1 := HZ3.out
   rw [if_pos (by simpa using hde)] at h1
   exact h1
  obtain ⟨z5, z6⟩ := z4
  have e2 : (t.line == r.line) = true := by simpa using z5
  have e3 : (t.depart == (depT n r.line (r.depart + 1)).1) = true := by simpa using z6
  clear z5 z6
  go_wp2_with fail
  go_ret
  exact ⟨rfl, HBY.out⟩
end
end Go.Proofs.YtpeaiphdkgifaaaGreatDoor
