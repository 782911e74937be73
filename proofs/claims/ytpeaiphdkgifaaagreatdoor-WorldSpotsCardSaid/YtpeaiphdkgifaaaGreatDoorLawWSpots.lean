/-
  The walk over the law WorldSpots.
-/
import Derived.Test.YtpeaiphdkgifaaaGreatDoorWxWSpots
namespace Go.Proofs.YtpeaiphdkgifaaaGreatDoor
open Go.RowKit
set_option maxHeartbeats 20000000
set_option maxRecDepth 100000
section
attribute [local go_sem] Oper.semAt_some
theorem wspots_any (n : Net) (fr till : Int) (nx : List NsC) (nxA : Option Addr) (nxC : Nat) (D : Option Addr) (dl dc : Nat) (DA : Option Addr) (DC : Nat) (ds : List Ded) (zi zo zt : Nat) (w : World) (h : LawIn w n nx nxA DA DC ds) (hz : zi <= 255) (hzo : zo <= 65535) (hzt : zt <= 65535) :
  Calls Tryz.prog 8 #[netV n, planV fr till nxA nx.length nxC D dl dc, .slice DA ds.length DC, u8V zi, u16V zo, u16V zt] w fun e w' => e = .returned (.bool true) /\ Below w.heap.size w w' := by
 have HIN := Lib.hid h
 have HL := Lib.hid (LwW.start (fr := fr) (till := till) (nxC := nxC) (D := D) (dl := dl) (dc := dc) h)
 clear h
 go_enter Tryz.func8, Tryz.ntmps8
 go_upto_region 1 with fail
 change Code.wp _ _ _ _ (allocs w (runObjs n fr till nxA nx.length nxC D dl dc))
 generalize allocs w (runObjs n fr till nxA nx.length nxC D dl dc) = V1 at HL ⊢
 generalize hN : w.heap.size = N at HL ⊢
 rw [<- hN] at HL
 have HL : Hid (LwW w n fr till nx nxA nxC D dl dc DA ds N (N + 1) V1) := by have h9 := HL.out; rw [hN] at h9; exact h9
 generalize hP : N + 1 = P at HL ⊢
 clear hN hP
 go_wp2_with fail
 refine (headW_any V1 HL.out.kw HL.out.pw).mono ?_
 rintro e V2 ⟨rfl, hb⟩
 replace HL := Lib.hid (HL.out.below hb)
 clear hb
 obtain ⟨⟨n0, n1, n2, n3, n4, n5⟩, p0, p1, p2, p3⟩ := HL.out.cells
 go_wp2_with fail
 have hcall := HL.out.fine (DC := DC) (fr := fr) (till := till) HIN.out
 have HCALL := Lib.hid hcall
 clear hcall
 with_reducible refine HCALL.out.mono ?_
 rintro e V3 ⟨⟨b, rfl, hf⟩, hb⟩
 clear HCALL
 clear n0 n1 n2 n3 n4 n5 p0 p1 p2 p3
 replace HL := Lib.hid (HL.out.below hb)
 clear hb
 have HFF := Lib.hid hf
 clear hf
 cases b
 case false =>
  go_wp2_with fail
  go_ret
  exact ⟨rfl, HL.out.bel⟩
 have HF := Lib.hid (HFF.out rfl)
 clear HFF
 obtain ⟨⟨n0, n1, n2, n3, n4, n5⟩, p0, p1, p2, p3⟩ := HL.out.cells
 go_wp2_with fail
 have hcall := HL.out.run HF.out.sound HF.out.form HF.out.six (ds' := ds) rfl HF.out.ok (by have := HF.out.deds; omega) DA DC HL.out.rd
 have HCALL := Lib.hid hcall
 clear hcall
 with_reducible refine HCALL.out.mono ?_
 rintro e V4 ⟨hb, hR⟩
 clear HCALL
 clear n0 n1 n2 n3 n4 n5 p0 p1 p2 p3
 replace HL := Lib.hid (HL.out.below hb)
 clear hb
 rcases hR with ⟨hr, rfl⟩ | ⟨h, ts, A, c, hr, hts, rfl, hT⟩
 case inl =>
  clear hr
  go_wp2_with fail
  go_ret
  exact ⟨rfl, HL.out.bel⟩
 have HR := Lib.hid hr
 have HTS := Lib.hid hts
 have HT := Lib.hid hT
 have hl16 : ts.length <= 16 := by rw [hts.len]; exact HF.out.few16 hr
 have hd16 : ds.length <= 16 := HF.out.deds
 clear hr hts hT
 by_cases g0 : ts.length = 0
 case pos =>
  have e0 : ((ts.length : Int) == 0) = true := by simp [g0]
  clear g0
  go_wp2_with fail
  go_ret
  exact ⟨rfl, HL.out.bel⟩
 have e0 : ((ts.length : Int) == 0) = false := by rw [beq_eq_false_iff_ne]; omega
 have HTP : Hid (0 < ts.length) := by show 0 < ts.length; omega
 clear g0
 have z0 : (0 : Int) <= (zi : Int) := by omega
 have z1 : (zi : Int) <= 255 := by omega
 have s1 : (0 : Int) < (ts.length : Int) := by have := HTP.out; omega
 have m0 : 0 <= (zi : Int) % (ts.length : Int) := Int.emod_nonneg _ (by omega)
 have m1 : (zi : Int) % (ts.length : Int) < (ts.length : Int) := Int.emod_lt_of_pos _ s1
 obtain ⟨it, a, ht, hit⟩ := HTS.out.get (i := zi % ts.length) (Nat.mod_lt _ HTP.out)
 obtain ⟨tb, to_, hA, hc⟩ := HT.out.atI ht
 have hc' := hc V4 (Below.refl _ _)
 obtain ⟨⟨x0, x1, x2, x3, x4⟩, x5, x6, x7, x8, x9⟩ := hc'
 have HI := Lib.hid (HF.out.item HR.out (List.mem_of_getElem? hit) a)
 have HTI := Lib.hid (HT.out.tr _ (List.mem_of_getElem? ht))
 rw [hA]
 clear hc ht hit hA
 go_upto_region 8 with fail
 clear x0 x1 x2 x3 x4 x5 x6 x7 x8 x9 m0 m1 s1
 have hb := ba V4 (trkO (trkOf it a))
 have hg := heap_alloc_new V4 (trkO (trkOf it a))
 replace HL := Lib.hid (HL.out.below hb)
 replace HT := Lib.hid (HT.out.below hb)
 replace HTI := Lib.hid (HTI.out.below hb)
 change Code.wp _ _ _ _ (V4.alloc (trkO (trkOf it a)))
 generalize (V4.alloc (trkO (trkOf it a))) = V4' at *
 generalize V4.heap.size = X at hg ⊢
 have HG := Lib.hid hg
 clear hb hg
 have ha0 : 0 <= it.post.acc := HI.out.pst.2.2.2.2.1
 have ha1 : it.post.acc <= 1000000 := HI.out.pst.2.2.2.2.2
 have j0 : (0 : Int) <= (zo : Int) := by omega
 have j1 : (zo : Int) <= 65535 := by omega
 have j2 : (0 : Int) <= (zt : Int) := by omega
 have j3 : (zt : Int) <= 65535 := by omega
 obtain ⟨⟨x0, x1, x2, x3, x4⟩, x5, x6, x7, x8, x9⟩   := trk_boxI HG.out
 go_upto_region 10 with fail
 generalize hta : it.post.acc - 5 + (zo : Int) = ta
 generalize htb : ta + (zt : Int) = tb
 have HTA := Lib.hid (And.intro hta htb)
 have b0 : -5 <= ta := by omega
 have b1 : ta <= 1065530 := by omega
 have b2 : ta <= tb := by omega
 have b3 : tb <= 1131065 := by omega
 have HACC := Lib.hid (And.intro ha0 ha1)
 clear hta htb ha0 ha1 j0 j1 x0 x1 x2 x3 x4 x5 x6 x7 x8 x9
 have HSE := Lib.hid (spots_end HF.out.sound.1.good HI.out.ok ta)
 have HSF := Lib.hid (spots_end HF.out.sound.1.good HI.out.ok tb).1
 generalize hoa : spotR it.stops ta = oa at HSE
 generalize hob : spotR it.stops tb = ob at HSE HSF
 have HOA := Lib.hid hoa
 have HOB := Lib.hid hob
 clear hoa hob
 obtain ⟨⟨x0, x1, x2, x3, x4⟩, x5, x6, x7, x8, x9⟩   := trk_boxI HG.out
 go_wp2_with fail
 refine (spot_any (trkOf it a) ta V4' HTI.out HI.out.short.1).mono ?_
 rw [show spotR (trkOf it a).stops ta = oa from HOA.out]
 rintro e V50 ⟨rfl, hb⟩
 clear x0 x1 x2 x3 x4 x5 x6 x7 x8 x9
 replace HL := Lib.hid (HL.out.below hb)
 replace HT := Lib.hid (HT.out.below hb)
 replace HTI := Lib.hid (HTI.out.below hb)
 replace HG := Lib.hid ((hb.block _ (block_lt HG.out)).trans HG.out)
 clear hb
 unfold spV
 go_upto_region 11 with fail
 have hb := ba V50 (.cells #[iV (oa.getD (0, 0)).1, iV (oa.getD (0, 0)).2] 67)
 have hg := heap_alloc_new V50 (.cells #[iV (oa.getD (0, 0)).1, iV (oa.getD (0, 0)).2] 67)
 replace HL := Lib.hid (HL.out.below hb)
 replace HT := Lib.hid (HT.out.below hb)
 replace HTI := Lib.hid (HTI.out.below hb)
 replace HG := Lib.hid ((hb.block _ (block_lt HG.out)).trans HG.out)
 change Code.wp _ _ _ _ (V50.alloc (.cells #[iV (oa.getD (0, 0)).1, iV (oa.getD (0, 0)).2] 67))
 generalize (V50.alloc (.cells #[iV (oa.getD (0, 0)).1, iV (oa.getD (0, 0)).2] 67)) = V5 at *
 generalize V50.heap.size = S1 at hg ⊢
 have HS1 := Lib.hid hg
 clear hb hg
 obtain ⟨⟨x0, x1, x2, x3, x4⟩, x5, x6, x7, x8, x9⟩   := trk_boxI HG.out
 go_wp2_with fail
 refine (spot_any (trkOf it a) tb V5 HTI.out HI.out.short.1).mono ?_
 rw [show spotR (trkOf it a).stops tb = ob from HOB.out]
 rintro e V60 ⟨rfl, hb⟩
 clear x0 x1 x2 x3 x4 x5 x6 x7 x8 x9
 replace HL := Lib.hid (HL.out.below hb)
 replace HT := Lib.hid (HT.out.below hb)
 replace HTI := Lib.hid (HTI.out.below hb)
 replace HG := Lib.hid ((hb.block _ (block_lt HG.out)).trans HG.out)
 replace HS1 := Lib.hid ((hb.block _ (block_lt HS1.out)).trans HS1.out)
 clear hb
 unfold spV
 go_upto_region 12 with fail
 have hb := ba V60 (.cells #[iV (ob.getD (0, 0)).1, iV (ob.getD (0, 0)).2] 67)
 have hg := heap_alloc_new V60 (.cells #[iV (ob.getD (0, 0)).1, iV (ob.getD (0, 0)).2] 67)
 replace HL := Lib.hid (HL.out.below hb)
 replace HT := Lib.hid (HT.out.below hb)
 replace HTI := Lib.hid (HTI.out.below hb)
 replace HG := Lib.hid ((hb.block _ (block_lt HG.out)).trans HG.out)
 replace HS1 := Lib.hid ((hb.block _ (block_lt HS1.out)).trans HS1.out)
 change Code.wp _ _ _ _ (V60.alloc (.cells #[iV (ob.getD (0, 0)).1, iV (ob.getD (0, 0)).2] 67))
 generalize (V60.alloc (.cells #[iV (ob.getD (0, 0)).1, iV (ob.getD (0, 0)).2] 67)) = V6 at *
 generalize V60.heap.size = S2 at hg ⊢
 have HS2 := Lib.hid hg
 clear hb hg
 cases oa with
 | none =>
  have e1 : decide (it.post.acc <= ta) = false := by
   cases h : decide (it.post.acc <= ta) with
   | false => rfl
   | true => exact absurd rfl (HSE.out.1.2 (of_decide_eq_true h))
  have x0 := cell_of_row _ _ 0 _ _ _ HS1.out
  have x1 := cell_of_row _ _ 1 _ _ _ HS1.out
  have x4 := (trk_boxI HG.out).1.2.2.2.2
  cases ob with
  | none =>
   have e2 : decide (it.post.acc <= tb) = false := by
    cases h : decide (it.post.acc <= tb) with
    | false => rfl
    | true => exact absurd rfl (HSF.out.2 (of_decide_eq_true h))
   go_wp2_with fail
   go_ret
   exact ⟨rfl, HL.out.bel⟩
  | some y =>
   have e2 : decide (it.post.acc <= tb) = true := decide_eq_true (HSF.out.1 (by simp))
   go_wp2_with fail
   go_ret
   exact ⟨rfl, HL.out.bel⟩
 | some x =>
  obtain ⟨x0, x1⟩ := x
  have hacc : it.post.acc <= ta := HSE.out.1.1 (by simp)
  cases ob with
  | none => exact absurd rfl (HSF.out.2 (by omega))
  | some y =>
   obtain ⟨y0, y1⟩ := y
   have e1 : decide (it.post.acc <= ta) = true := decide_eq_true hacc
   have e2 : decide (it.post.acc <= tb) = true := decide_eq_true (by omega)
   have x4 := (trk_boxI HG.out).1.2.2.2.2
   have HXC := Lib.hid (HSE.out.2.1 (x0, x1) rfl)
   have HXD := Lib.hid (HSE.out.2.2 tb (x0, x1) (y0, y1) b2 rfl HOB.out)
   go_upto_region 18 with fail
   clear e1 e2 x4 hacc HSE HSF HOA HOB
   replace HS1 : Hid (V6.heap[S1]? = some (.cells #[iV x0, iV x1] 67)) := HS1.out
   replace HS2 : Hid (V6.heap[S2]? = some (.cells #[iV y0, iV y1] 67)) := HS2.out
   have HOFF : Hid (∀ s ∈ it.stops, 0 <= s.office) := fun s hs => (HI.out.ok.offs s hs).1
   have hst20 : it.stops.length <= 20 := HI.out.ok.len
   rcases HXC.out with ⟨hx1, hex⟩ | ⟨hx0, hex⟩
   case inl =>
    replace hx1 : x1 = -1 := hx1
    subst hx1
    have HEX := Lib.hid hex
    have hx0 : 0 <= x0 := by
     obtain ⟨s, hs, h, -⟩ := hex
     rw [show x0 = s.office from h]
     exact HOFF.out s hs
    clear hex HXC HOFF
    go_loopw [23, 24] (fun c i wr => ∃ (k : Nat) (b : Bool), k <= it.stops.length /\ i = iV k /\ c = .bool b /\ Hid (b = false -> ∀ j < k, ∀ s, it.stops[j]? = some s -> ¬ (x0 = s.office /\ s.arrive <= ta /\ (s.depart = -1 ∨ ta <= s.depart))) /\ Hid (Below V6.heap.size V6 wr)) (fun _ i _ => 22 - (intOf i).toNat)
    case atStart => exact ⟨0, false, Nat.zero_le _, rfl, rfl, fun _ j hj => by omega, Below.refl _ _⟩
    case round =>
    obtain ⟨k, b, hk, rfl, rfl, HCV, HBW⟩ := hrel
    have k0 : (0 : Int) <= (k : Int) := by omega
    obtain ⟨-, x5, -, -, -, -⟩ := trk_boxI ((HBW.out.block _ (block_lt HG.out)).trans HG.out)
    by_cases hlt : k < it.stops.length
    case pos =>
     have HLT := Lib.hid hlt
     have k1 : (k : Int) < (it.stops.length : Int) := by omega
     obtain ⟨s, hs⟩ : ∃ s, it.stops[k]? = some s := ⟨_, List.getElem?_eq_getElem hlt⟩
     have HSS := Lib.hid hs
     obtain ⟨-, sb, so, hsA, -, u0, uj⟩ := elem_at encSt_len (HTI.out.st.below HBW.out) hs (by omega)
     cases hsA
     have s0 : wr.cell? ⟨a.sB, k * 4, none⟩ = some (iV s.office) := by have := u0 _ rfl; rwa [Nat.zero_add] at this
     have s1 : wr.cell? ⟨a.sB, k * 4 + 1, none⟩ = some (iV s.arrive) := by have := uj 1 _ rfl; rwa [Nat.zero_add] at this
     have s2 : wr.cell? ⟨a.sB, k * 4 + 2, none⟩ = some (iV s.depart) := by have := uj 2 _ rfl; rwa [Nat.zero_add] at this
     have s3 : wr.cell? ⟨a.sB, k * 4 + 3, none⟩ = some (iV s.line) := by have := uj 3 _ rfl; rwa [Nat.zero_add] at this
     clear u0 uj hs hlt
     go_upto_region 21 with fail
     clear x5 s0 s1 s2 s3
     have hb := ba wr (.cells #[iV s.office, iV s.arrive, iV s.depart, iV s.line] 50)
     have hg := heap_alloc_new wr (.cells #[iV s.office, iV s.arrive, iV s.depart, iV s.line] 50)
     replace HBW : Hid (Below V6.heap.size V6 (wr.alloc (.cells #[iV s.office, iV s.arrive, iV s.depart, iV s.line] 50))) := HBW.out.trans (hb.mono HBW.out.size)
     change Code.wp _ _ _ _ (wr.alloc (.cells #[iV s.office, iV s.arrive, iV s.depart, iV s.line] 50))
     generalize (wr.alloc (.cells #[iV s.office, iV s.arrive, iV s.depart, iV s.line] 50)) = W1 at *
     generalize wr.heap.size = Q at hg ⊢
     have s0 := cell_of_row _ _ 0 _ _ _ hg
     have s1 := cell_of_row _ _ 1 _ _ _ hg
     have s2 := cell_of_row _ _ 2 _ _ _ hg
     have s3 := cell_of_row _ _ 3 _ _ _ hg
     clear hg hb
     obtain ⟨-, x5, -, -, -, -⟩ := trk_boxI ((HBW.out.block _ (block_lt HG.out)).trans HG.out)
     have c0 := cell_of_row _ _ 0 _ _ _ ((HBW.out.block _ (block_lt HS1.out)).trans HS1.out)
     have c1 := cell_of_row _ _ 1 _ _ _ ((HBW.out.block _ (block_lt HS1.out)).trans HS1.out)
     clear HL HT HTI HG HS1 HS2 HTS HF HR HIN
     have x9 : (x0 == -1) = false := by rw [beq_eq_false_iff_ne]; omega
     have dn : ∀ d : Bool, d = decide ((k : Int) + 1 < (it.stops.length : Int)) -> True := fun _ _ => trivial
     clear dn
     cases c2 : (x0 == s.office)
     case false =>
      cases d1 : decide ((k : Int) + 1 < (it.stops.length : Int))
      all_goals
       have HNO : Hid (b = false -> ∀ j < k + 1, ∀ u, it.stops[j]? = some u -> ¬ (x0 = u.office /\ u.arrive <= ta /\ (u.depart = -1 ∨ ta <= u.depart))) := fun h j hj u hu => by
        rcases Nat.lt_or_ge j k with g | g
        ·exact HCV.out h j g u hu
        ·obtain rfl : j = k := by omega
         rw [HSS.out] at hu
         cases hu
         rintro ⟨h, -⟩; rw [beq_eq_false_iff_ne] at c2; exact c2 h
       go_wp2_with fail
       go_roundw
       case rel => exact ⟨k + 1, b, HLT.out, by go_num, rfl, HNO.out, HBW⟩
       case measure => have := HLT.out; simp [intOf]; omega
     cases c3 : decide (s.arrive <= ta)
     case false =>
      cases d1 : decide ((k : Int) + 1 < (it.stops.length : Int))
      all_goals
       have HNO : Hid (b = false -> ∀ j < k + 1, ∀ u, it.stops[j]? = some u -> ¬ (x0 = u.office /\ u.arrive <= ta /\ (u.depart = -1 ∨ ta <= u.depart))) := fun h j hj u hu => by
        rcases Nat.lt_or_ge j k with g | g
        ·exact HCV.out h j g u hu
        ·obtain rfl : j = k := by omega
         rw [HSS.out] at hu
         cases hu
         rintro ⟨-, h, -⟩; exact of_decide_eq_false c3 h
       go_wp2_with fail
       go_roundw
       case rel => exact ⟨k + 1, b, HLT.out, by go_num, rfl, HNO.out, HBW⟩
       case measure => have := HLT.out; simp [intOf]; omega
     cases c4 : (s.depart == -1)
     case true =>
      cases d1 : decide ((k : Int) + 1 < (it.stops.length : Int))
      all_goals
       go_wp2_with fail
       go_roundw
       case rel => exact ⟨k + 1, true, HLT.out, by go_num, rfl, (fun h => by cases h), HBW⟩
       case measure => have := HLT.out; simp [intOf]; omega
     cases c5 : decide (ta <= s.depart)
     case true =>
      cases d1 : decide ((k : Int) + 1 < (it.stops.length : Int))
      all_goals
       go_wp2_with fail
       go_roundw
       case rel => exact ⟨k + 1, true, HLT.out, by go_num, rfl, (fun h => by cases h), HBW⟩
       case measure => have := HLT.out; simp [intOf]; omega
     cases d1 : decide ((k : Int) + 1 < (it.stops.length : Int))
     all_goals
      have HNO : Hid (b = false -> ∀ j < k + 1, ∀ u, it.stops[j]? = some u -> ¬ (x0 = u.office /\ u.arrive <= ta /\ (u.depart = -1 ∨ ta <= u.depart))) := fun h j hj u hu => by
       rcases Nat.lt_or_ge j k with g | g
       ·exact HCV.out h j g u hu
       ·obtain rfl : j = k := by omega
        rw [HSS.out] at hu
        cases hu
        rintro ⟨-, -, h | h⟩; exact absurd h (by rwa [beq_eq_false_iff_ne] at c4); exact of_decide_eq_false c5 h
      go_wp2_with fail
      go_roundw
      case rel => exact ⟨k + 1, b, HLT.out, by go_num, rfl, HNO.out, HBW⟩
      case measure => have := HLT.out; simp [intOf]; omega
    case neg =>
     have k1 : ¬ (k : Int) < (it.stops.length : Int) := by omega
     have HKE := Lib.hid (show k = it.stops.length by omega)
     cases b
     case false =>
      exfalso
      obtain ⟨s, hs, h1, h2, h3⟩ := HEX.out
      obtain ⟨j, hj⟩ := List.getElem?_of_mem hs
      exact HCV.out rfl j (by have := (List.getElem?_eq_some_iff.1 hj).1; have := HKE.out; omega) s hj ⟨h1, h2, h3⟩
     have HLW := Lib.hid (HL.out.below HBW.out)
     have HS1W := Lib.hid ((HBW.out.block _ (block_lt HS1.out)).trans HS1.out)
     have HS2W := Lib.hid ((HBW.out.block _ (block_lt HS2.out)).trans HS2.out)
     clear HCV HBW HL HT HTI HG HS1 HS2 HTS
     have c0 := cell_of_row _ _ 0 _ _ _ HS1W.out
     have u0 := cell_of_row _ _ 0 _ _ _ HS2W.out
     by_cases hy : y0 < 0
     case pos =>
      go_wp2_with fail
      go_ret
      exact ⟨rfl, HLW.out.bel⟩
     have HD := Lib.hid (HXD.out hx0 (by omega))
     obtain ⟨p, rfl⟩ := Int.eq_ofNat_of_zero_le hx0
     obtain ⟨q, rfl⟩ := Int.eq_ofNat_of_zero_le (show 0 <= y0 by omega)
     obtain ⟨⟨n0, n1, n2, n3, n4, n5⟩, -, -, -, -⟩ := HLW.out.cells
     go_wp2_with fail
     refine (wdist_any n wr HLW.out.nin HLW.out.kw HF.out.sound.1).mono ?_
     rintro e W2 ⟨g, xs, rfl, hxr, hxl, hrows, hb⟩
     clear x5 c0 u0 n0 n1 n2 n3 n4 n5 hy
     have HBZ : Hid (Below w.heap.size w W2) := HLW.out.bel.trans (hb.mono HLW.out.bel.size)
     have hp : p < n.offs.length := by have h8 : ((p : Int)) < n.offs.length := HD.out.1; omega
     have hq : q < n.offs.length := by have h8 : ((q : Int)) < n.offs.length := HD.out.2.1; omega
     have hd3 : 0 <= distM (edgesOf n) p q := HD.out.2.2.1
     have hd4 : distM (edgesOf n) p q <= (zt : Int) := by have h8 : distM (edgesOf n) p q <= tb - ta := HD.out.2.2.2; have := HTA.out.2; omega
     obtain ⟨rb, hrb, hrc⟩ := hrows p hp
     have v0 : W2.cell? ⟨S1, 0, none⟩ = some (iV p) := (cell_keepD hb (cell_of_row _ _ 0 _ _ _ HS1W.out))
     have v1 : W2.cell? ⟨S2, 0, none⟩ = some (iV q) := (cell_keepD hb (cell_of_row _ _ 0 _ _ _ HS2W.out))
     have v2 : W2.cell? ⟨g, p, none⟩ = some (.slice (some ⟨rb, 0, none⟩) n.offs.length n.offs.length) := by
      have h8 := hxr.cell (i := p) (by omega)
      rw [Nat.zero_add] at h8
      rw [h8]
      congr 1
      have h9 := (List.getElem?_eq_some_iff.1 hrb).2
      simp [h9]
     have v3 := hrc q hq
     have p0 : (0 : Int) <= (p : Int) := by omega
     have p1 : (p : Int) < (n.offs.length : Int) := by omega
     have q0 : (0 : Int) <= (q : Int) := by omega
     have q1 : (q : Int) < (n.offs.length : Int) := by omega
     have f1 : decide ((n.offs.length : Int) <= (p : Int)) = false := decide_eq_false (by omega)
     have f2 : decide ((n.offs.length : Int) <= (q : Int)) = false := decide_eq_false (by omega)
     have f1' : decide (n.offs.length <= p) = false := decide_eq_false (by omega)
     have f2' : decide (n.offs.length <= q) = false := decide_eq_false (by omega)
     generalize distM (edgesOf n) p q = dd at *
     have f3 : decide (0 <= dd) = true := decide_eq_true hd3
     have f4 : decide (dd <= (zt : Int)) = true := decide_eq_true hd4
     clear hxr hxl hrows hb hrb hrc hp hq HD HS1W HS2W
     go_wp2_with fail
     go_quiet (fail)
     go_wp2_with fail
     go_quiet (fail)
     go_wp2_with fail
     go_ret
     exact ⟨rfl, below_drewN (below_drewN HBZ.out _) _⟩
   case inr =>
    replace hx0 : x0 = -1 := hx0
    subst hx0
    have HEX := Lib.hid hex
    have hx1 : 0 <= x1 := by
     obtain ⟨i, s, u, h1, h2, h3, -⟩ := hex
     obtain ⟨e, -, hh⟩ := path_get HI.out.ok.path h1 h2
     rw [show x1 = s.line from h3]
     exact hh.line.1
    clear hex HXC HOFF HXD
    have HTW : Hid (∀ W, Below V6.heap.size V6 W -> TrkIn W (trkOf it a)) := fun W hb => HTI.out.below hb
    go_loopw [23, 24] (fun c i wr => ∃ (k : Nat) (b : Bool), k <= it.stops.length /\ i = iV k /\ c = .bool b /\ Hid (b = false -> ∀ j < k, ∀ s, it.stops[j]? = some s -> ¬ (x1 = s.line /\ s.depart < ta /\ ∃ v, it.stops[j + 1]? = some v /\ ta < v.arrive)) /\ Hid (Below V6.heap.size V6 wr)) (fun _ i _ => 22 - (intOf i).toNat)
    case atStart => exact ⟨0, false, Nat.zero_le _, rfl, rfl, fun _ j hj => by omega, Below.refl _ _⟩
    case round =>
    obtain ⟨k, b, hk, rfl, rfl, HCV, HBW⟩ := hrel
    have k0 : (0 : Int) <= (k : Int) := by omega
    obtain ⟨-, x5, -, -, -, -⟩ := trk_boxI ((HBW.out.block _ (block_lt HG.out)).trans HG.out)
    by_cases hlt : k < it.stops.length
    case pos =>
     have HLT := Lib.hid hlt
     have k1 : (k : Int) < (it.stops.length : Int) := by omega
     obtain ⟨s, hs⟩ : ∃ s, it.stops[k]? = some s := ⟨_, List.getElem?_eq_getElem hlt⟩
     have HSS := Lib.hid hs
     obtain ⟨-, sb, so, hsA, -, u0, uj⟩ := elem_at encSt_len (HTI.out.st.below HBW.out) hs (by omega)
     cases hsA
     have s0 : wr.cell? ⟨a.sB, k * 4, none⟩ = some (iV s.office) := by have := u0 _ rfl; rwa [Nat.zero_add] at this
     have s1 : wr.cell? ⟨a.sB, k * 4 + 1, none⟩ = some (iV s.arrive) := by have := uj 1 _ rfl; rwa [Nat.zero_add] at this
     have s2 : wr.cell? ⟨a.sB, k * 4 + 2, none⟩ = some (iV s.depart) := by have := uj 2 _ rfl; rwa [Nat.zero_add] at this
     have s3 : wr.cell? ⟨a.sB, k * 4 + 3, none⟩ = some (iV s.line) := by have := uj 3 _ rfl; rwa [Nat.zero_add] at this
     clear u0 uj hs hlt
     go_upto_region 21 with fail
     clear x5 s0 s1 s2 s3
     have hb := ba wr (.cells #[iV s.office, iV s.arrive, iV s.depart, iV s.line] 50)
     have hg := heap_alloc_new wr (.cells #[iV s.office, iV s.arrive, iV s.depart, iV s.line] 50)
     replace HBW : Hid (Below V6.heap.size V6 (wr.alloc (.cells #[iV s.office, iV s.arrive, iV s.depart, iV s.line] 50))) := HBW.out.trans (hb.mono HBW.out.size)
     change Code.wp _ _ _ _ (wr.alloc (.cells #[iV s.office, iV s.arrive, iV s.depart, iV s.line] 50))
     generalize (wr.alloc (.cells #[iV s.office, iV s.arrive, iV s.depart, iV s.line] 50)) = W1 at *
     generalize wr.heap.size = Q at hg ⊢
     have s0 := cell_of_row _ _ 0 _ _ _ hg
     have s1 := cell_of_row _ _ 1 _ _ _ hg
     have s2 := cell_of_row _ _ 2 _ _ _ hg
     have s3 := cell_of_row _ _ 3 _ _ _ hg
     clear hg hb
     obtain ⟨-, x5, -, -, -, -⟩ := trk_boxI ((HBW.out.block _ (block_lt HG.out)).trans HG.out)
     have c0 := cell_of_row _ _ 0 _ _ _ ((HBW.out.block _ (block_lt HS1.out)).trans HS1.out)
     have c1 := cell_of_row _ _ 1 _ _ _ ((HBW.out.block _ (block_lt HS1.out)).trans HS1.out)
     clear HL HT HTI HG HS1 HS2 HTS HF HR HIN
     have x9 : (x1 == -1) = false := by rw [beq_eq_false_iff_ne]; omega
     have em : IntKind.i64.wrap ((k : Int) + 1) = (k : Int) + 1 := IntWalk.i64_in _ (by omega)
     by_cases d1 : k + 1 < it.stops.length
     case neg =>
      have d2 : ¬ (k : Int) + 1 < (it.stops.length : Int) := by omega
      have HNO : Hid (b = false -> ∀ j < k + 1, ∀ u, it.stops[j]? = some u -> ¬ (x1 = u.line /\ u.depart < ta /\ ∃ v, it.stops[j + 1]? = some v /\ ta < v.arrive)) := fun h j hj u hu => by
       rcases Nat.lt_or_ge j k with g | g
       ·exact HCV.out h j g u hu
       ·obtain rfl : j = k := by omega
        rw [HSS.out] at hu
        cases hu
        rintro ⟨-, -, v, h, -⟩; exact d1 (List.getElem?_eq_some_iff.1 h).1
      go_wp2_with fail
      go_roundw
      case rel => exact ⟨k + 1, b, HLT.out, by go_num, rfl, HNO.out, HBW⟩
      case measure => have := HLT.out; simp [intOf]; omega
     have d2 : (k : Int) + 1 < (it.stops.length : Int) := by omega
     obtain ⟨v, hv⟩ : ∃ v, it.stops[k + 1]? = some v := ⟨_, List.getElem?_eq_getElem d1⟩
     obtain ⟨-, sb, so, hsA, -, u0, uj⟩ := elem_at encSt_len (HTW.out W1 HBW.out).st hv (by omega)
     cases hsA
     have r1 : W1.cell? ⟨a.sB, (k + 1) * 4 + 1, none⟩ = some (iV v.arrive) := by have := uj 1 _ rfl; rwa [Nat.zero_add] at this
     have HVV := Lib.hid hv
     have d0 : (0 : Int) <= (k : Int) + 1 := by omega
     have dt : ((k : Int) + 1).toNat = k + 1 := by omega
     clear u0 uj hv d1
     cases c2 : (x1 == s.line)
     case false =>
      have HNO : Hid (b = false -> ∀ j < k + 1, ∀ u, it.stops[j]? = some u -> ¬ (x1 = u.line /\ u.depart < ta /\ ∃ v, it.stops[j + 1]? = some v /\ ta < v.arrive)) := fun h j hj u hu => by
       rcases Nat.lt_or_ge j k with g | g
       ·exact HCV.out h j g u hu
       ·obtain rfl : j = k := by omega
        rw [HSS.out] at hu
        cases hu
        rintro ⟨h, -⟩; rw [beq_eq_false_iff_ne] at c2; exact c2 h
      go_wp2_with fail
      go_roundw
      case rel => exact ⟨k + 1, b, HLT.out, by go_num, rfl, HNO.out, HBW⟩
      case measure => have := HLT.out; simp [intOf]; omega
     cases c3 : decide (s.depart < ta)
     case false =>
      have HNO : Hid (b = false -> ∀ j < k + 1, ∀ u, it.stops[j]? = some u -> ¬ (x1 = u.line /\ u.depart < ta /\ ∃ v, it.stops[j + 1]? = some v /\ ta < v.arrive)) := fun h j hj u hu => by
       rcases Nat.lt_or_ge j k with g | g
       ·exact HCV.out h j g u hu
       ·obtain rfl : j = k := by omega
        rw [HSS.out] at hu
        cases hu
        rintro ⟨-, h, -⟩; exact of_decide_eq_false c3 h
      go_wp2_with fail
      go_roundw
      case rel => exact ⟨k + 1, b, HLT.out, by go_num, rfl, HNO.out, HBW⟩
      case measure => have := HLT.out; simp [intOf]; omega
     cases c4 : decide (ta < v.arrive)
     case true =>
      go_wp2_with fail
      go_roundw
      case rel => exact ⟨k + 1, true, HLT.out, by go_num, rfl, (fun h => by cases h), HBW⟩
      case measure => have := HLT.out; simp [intOf]; omega
     have HNO : Hid (b = false -> ∀ j < k + 1, ∀ u, it.stops[j]? = some u -> ¬ (x1 = u.line /\ u.depart < ta /\ ∃ v, it.stops[j + 1]? = some v /\ ta < v.arrive)) := fun h j hj u hu => by
      rcases Nat.lt_or_ge j k with g | g
      ·exact HCV.out h j g u hu
      ·obtain rfl : j = k := by omega
       rw [HSS.out] at hu
       cases hu
       rintro ⟨-, -, v', h, h'⟩; rw [HVV.out] at h; cases h; exact of_decide_eq_false c4 h'
     go_wp2_with fail
     go_roundw
     case rel => exact ⟨k + 1, b, HLT.out, by go_num, rfl, HNO.out, HBW⟩
     case measure => have := HLT.out; simp [intOf]; omega
    case neg =>
     have k1 : ¬ (k : Int) < (it.stops.length : Int) := by omega
     have HKE := Lib.hid (show k = it.stops.length by omega)
     cases b
     case false =>
      exfalso
      obtain ⟨i, s, u, h1, h2, h3, h4, h5⟩ := HEX.out
      exact HCV.out rfl i (by have := (List.getElem?_eq_some_iff.1 h1).1; have := HKE.out; omega) s h1 ⟨h3, h4, u, h2, h5⟩
     have HBZ : Hid (Below w.heap.size w wr) := HL.out.bel.trans (HBW.out.mono HL.out.bel.size)
     have c0 := cell_of_row _ _ 0 _ _ _ ((HBW.out.block _ (block_lt HS1.out)).trans HS1.out)
     go_wp2_with fail
     go_ret
     exact ⟨rfl, HBZ.out⟩
end
end Go.Proofs.YtpeaiphdkgifaaaGreatDoor
