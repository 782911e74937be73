/- The walk over survey.check: Operator. The walk over survey.check: -/
import Derived.Test.YtpeaiphdkgifaaaGreatDoorVaf
namespace Go.Proofs.YtpeaiphdkgifaaaGreatDoor
open Go.RowKit
set_option maxHeartbeats 20000000
set_option maxRecDepth 100000
theorem qv (kind : Int) (lim : Nat) (f g : FuncId) (fb gb : Array Value) (nm : Nat -> List UInt8) (gd : List UInt8 -> Bool) (L : List (List UInt8)) (A : Option Addr) (c : Nat) (w : World)
  (hf : fd f fb nm L.length w) (hg : ii g gb (fun x : List UInt8 => opV x) L gd w) (hk : KW w) (hl : L.length <= maxLen) (hlim : lim <= 40) (hnm : ∀ i < L.length, (nm i).length <= maxLen) (hR : Rd w A (L.flatMap nN))
  (ef : ∀ args w, (callFunc f args).run Tryz.prog w = .ok (.enter f args) w) (eg : ∀ args w, (callFunc g args).run Tryz.prog w = .ok (.enter g args) w) :
  Calls Tryz.prog 113 #[iV kind, iV lim, .slice A L.length c, .func (.func f) #[] fb, .func (.func g) #[] gb] w (xg w (L.length <= lim /\ ∀ i < L.length, cB nm gd L i)) := by
 have HF := aB hf
 have HG := aB hg
 have HK := aB hk
 have HN := aB hnm
 have HR := aB hR
 have HL := aB hl
 have EF := aB ef
 have EG := aB eg
 clear hf hg hk hnm hR ef eg
 unfold maxLen at hl
 have h0 := je w (.cells #[.slice A L.length c] 24) (.cells #[.func (.func f) #[] fb] 104) (.cells #[.func (.func g) #[] gb] 173) (.cells #[ck1 156 (w.heap.size + 1), ck1 157 (w.heap.size + 1), ck2 158 (w.heap.size + 1 + 1) w.heap.size] 203)
 go_enter Tryz.func113, Tryz.ntmps113
 go_upto_region 2 with fail
 change Code.wp _ _ _ _ ((((w.alloc (.cells #[.slice A L.length c] 24)).alloc (.cells #[.func (.func f) #[] fb] 104)).alloc (.cells #[.func (.func g) #[] gb] 173)).alloc (.cells #[ck1 156 (w.heap.size + 1), ck1 157 (w.heap.size + 1), ck2 158 (w.heap.size + 1 + 1) w.heap.size] 203))
 generalize ((((w.alloc (.cells #[.slice A L.length c] 24)).alloc (.cells #[.func (.func f) #[] fb] 104)).alloc (.cells #[.func (.func g) #[] gb] 173)).alloc (.cells #[ck1 156 (w.heap.size + 1), ck1 157 (w.heap.size + 1), ck2 158 (w.heap.size + 1 + 1) w.heap.size] 203)) = W at *
 generalize w.heap.size = X at h0 ⊢
 have HS := aB h0
 clear h0
 generalize hX1 : X + 1 = X1 at *
 generalize hX2 : X1 + 1 = X2 at *
 generalize hX3 : X2 + 1 = X3 at *
 clear hX1 hX2 hX3
 have c0 := aA 0 HS.out.q0
 go_upto_region 3 with fail
 go_cut [24, 25] from 21 to 25 (fun v i wx => ∃ M : Nat, M <= lim /\ M <= L.length /\ (M = lim ∨ M = L.length) /\ v = iV M /\ i = iV 0 /\ wx = W)
 case first =>
  by_cases hml : (lim : Int) < (L.length : Int)
  ·go_wp2_with fail
   go_meet
   exact ⟨lim, by omega, by omega, .inl rfl, rfl, rfl, rfl⟩
  ·go_wp2_with fail
   go_meet
   exact ⟨L.length, by omega, by omega, .inr rfl, rfl, rfl, rfl⟩
 case rest =>
 obtain ⟨M, hM1, hM2, hM3, rfl, rfl, hw⟩ := hcut
 rw [hw]
 clear hw
 clear c0
 have ix0 : ∀ w : World, (Instr.index 203 (.agg #[ck1 156 X1, ck1 157 X1, ck2 158 X2 X]) (iV 0)).run Tryz.prog w = .ok (ck1 156 X1) w := fun _ => by kernel_rfl
 have ix1 : ∀ w : World, (Instr.index 203 (.agg #[ck1 156 X1, ck1 157 X1, ck2 158 X2 X]) (iV 1)).run Tryz.prog w = .ok (ck1 157 X1) w := fun _ => by kernel_rfl
 have ix2 : ∀ w : World, (Instr.index 203 (.agg #[ck1 156 X1, ck1 157 X1, ck2 158 X2 X]) (iV 2)).run Tryz.prog w = .ok (ck2 158 X2 X) w := fun _ => by kernel_rfl
 go_wp2_with fail
 go_loopw [25, 12] (fun i v wr => ∃ (k m : Nat) (xs : List Value), k <= M /\ m <= k /\ i = iV k /\ Hid (wr.ownsRow (X3 + 1) 150 3 v m xs) /\ Hid (∀ x ∈ xs, x.oneCell' = true) /\ Hid (Below (X3 + 1) W wr) /\ Hid (m = 0 ↔ ∀ j < k, cB nm gd L j)) (fun i _ _ => lim + 1 - (intOf i).toNat)
 case atStart => exact ⟨0, 0, [], by omega, by omega, rfl, World.ownsRow_nil _ _ _ _, (fun x hx => by cases hx), aJ _ _, ⟨fun _ j hj => by omega, fun _ => rfl⟩⟩
 case round =>
 obtain ⟨k, m, xs, hk, hmk, rfl, HO, H1, HB, HQ⟩ := hrel
 obtain ⟨A2, c2, rfl⟩ := b9 HO.out
 have HS1 := aB (HS.out.keep HB.out)
 have m0 : (0 : Int) <= (k : Int) := by omega
 by_cases hlt : k < M
 case neg =>
  have m1 : ¬ (k : Int) < (M : Int) := by omega
  have r0 := aA 0 HS1.out.q0
  have HFIN : Hid (Below w.heap.size w W) := HS.out.bel
  by_cases hml : (lim : Int) < (L.length : Int)
  ·go_wp2_with (refine bG (by rfl) (.tmp 50) (.tmp 54) (by rfl) (by rfl) (by rfl) HO.out (by omega) HS.out.len HB.out ?_; intro A4 c4 w4 ho hb; have HO4 := aB ho; have HB4 := aB hb; clear ho hb)
   go_ret
   exact ⟨A4, m + 1, c4, xs ++ [iV kind, iV lim, iV 2], rfl, cn HO4.out (by have := HS.out.eq; have := HS.out.lt; omega), fI H1.out, ⟨fun h => by omega, fun h => by omega⟩, by omega, (HS.out.keep HB4.out).bel⟩
  ·go_wp2
   go_ret
   exact ⟨A2, m, c2, xs, rfl, cn HO.out (by have := HS.out.eq; have := HS.out.lt; omega), H1.out, HQ.out.trans ⟨fun h => ⟨by omega, fun i hi => h i (by omega)⟩, fun h j hj => h.2 j (by omega)⟩, by omega, HS1.out.bel⟩
 have m1 : (k : Int) < (M : Int) := by omega
 have hlt2 : k < L.length := by omega
 have r1 := aA 0 HS1.out.q1
 have hx : L[k]? = some L[k] := aD _
 generalize L[k] = x at hx
 have HXX := aB hx; clear hx
 go_wp2_with (refine wpList_load_row (by rfl) 203 (.tmp 11) (by rfl) X3 (by rfl) 203 #[ck1 156 X1, ck1 157 X1, ck2 158 X2 X] (0, 0) _ HS1.out.q3 Tryz.underlying203 (by rfl) (by kernel_rfl) ?_)
 refine wp_loop_rounds 4 ?_
 rw [rounds_succ]
 go_wp2_with fail
 refine (vo f fb nm L.length k X1 _ (HF.out.below HS1.out.bel) (HK.out.below HS1.out.bel) hlt2 (HN.out k hlt2) r1 EF.out).mono ?_
 rintro e w1 ⟨rfl, hb⟩
 have HB1 : Hid (Below (X3 + 1) W w1) := HB.out.trans (hb.mono (aG HS.out.len HB.out.size))
 have HO1 := aB (aq HO.out hb)
 have HS2 := aB (HS.out.keep HB1.out)
 clear r1 hb HO HB HS1
 cases hn1 : bI (nm k)
 case false =>
  have HBAD : Hid (m + 1 = 0 ↔ ∀ j < k + 1, cB nm gd L j) := en (fun h => by rw [h.1] at hn1; cases hn1)
  clear hn1
  go_wp2_with (refine bG (by rfl) (.tmp 37) (.tmp 42) (by rfl) (by rfl) (by rfl) HO1.out (by omega) HS.out.len HB1.out ?_; intro A4 c4 w4 ho hb; have HO4 := aB ho; have HB4 := aB hb; clear ho hb)
  go_roundw
  case rel => exact ⟨k + 1, m + 1, _, by omega, by omega, by go_num, HO4.out, fI H1.out, HB4.out, HBAD.out⟩
  case measure => simp [intOf]; omega
 have HN1 := aB hn1; clear hn1
 go_wp2
 rw [rounds_succ]
 have r1 := aA 0 HS2.out.q1
 go_wp2_with fail
 refine (vn f fb nm L.length k X1 _ (HF.out.below HS2.out.bel) hlt2 HL.out r1 EF.out).mono ?_
 rintro e w2 ⟨⟨y, rfl, hy⟩, hb⟩
 have HY := aB hy; clear hy
 have HB2 : Hid (Below (X3 + 1) W w2) := HB1.out.trans (hb.mono (aG HS.out.len HB1.out.size))
 have HO2 := aB (aq HO1.out hb)
 have HS3 := aB (HS.out.keep HB2.out)
 clear r1 hb HO1 HB1 HS2
 by_cases hy0 : y = 0
 case neg =>
  have HBAD : Hid (m + 1 = 0 ↔ ∀ j < k + 1, cB nm gd L j) := en (fun h => hy0 (HY.out.2 h.2.1))
  have y1 : (y != 0) = true := by simpa using hy0
  have y2 : (y == 0) = false := by simpa using hy0
  clear hy0
  go_wp2_with (refine bG (by rfl) (.tmp 37) (.tmp 42) (by rfl) (by rfl) (by rfl) HO2.out (by omega) HS.out.len HB2.out ?_; intro A4 c4 w4 ho hb; have HO4 := aB ho; have HB4 := aB hb; clear ho hb)
  go_roundw
  case rel => exact ⟨k + 1, m + 1, _, by omega, by omega, by go_num, HO4.out, fI H1.out, HB4.out, HBAD.out⟩
  case measure => simp [intOf]; omega
 have HN2 : Hid (bS nm k = true) := HY.out.1 hy0
 subst hy0
 clear HY
 go_wp2
 rw [rounds_succ]
 have r0 := aA 0 HS3.out.q0
 have r2 := aA 0 HS3.out.q2
 go_wp2_with fail
 refine (vl g gb gd L A c k X2 X x _ (HG.out.below HS3.out.bel) HL.out (HR.out.below HS3.out.bel) HXX.out r2 r0 EG.out).mono ?_
 rintro e w3 ⟨rfl, hb⟩
 have HB3 : Hid (Below (X3 + 1) W w3) := HB2.out.trans (hb.mono (aG HS.out.len HB2.out.size))
 have HO3 := aB (aq HO2.out hb)
 clear r0 r2 hb HO2 HB2 HS3
 cases hn3 : gd x
 case false =>
  have HBAD : Hid (m + 1 = 0 ↔ ∀ j < k + 1, cB nm gd L j) := en (fun h => by rw [h.2.2 x HXX.out] at hn3; cases hn3)
  clear hn3
  go_wp2_with (refine bG (by rfl) (.tmp 37) (.tmp 42) (by rfl) (by rfl) (by rfl) HO3.out (by omega) HS.out.len HB3.out ?_; intro A4 c4 w4 ho hb; have HO4 := aB ho; have HB4 := aB hb; clear ho hb)
  go_roundw
  case rel => exact ⟨k + 1, m + 1, _, by omega, by omega, by go_num, HO4.out, fI H1.out, HB4.out, HBAD.out⟩
  case measure => simp [intOf]; omega
 have HGOOD : Hid (m = 0 ↔ ∀ j < k + 1, cB nm gd L j) := kn HQ.out ⟨HN1.out, HN2.out, fun z hz => by rw [HXX.out] at hz; cases hz; exact hn3⟩
 clear hn3 HQ
 go_wp2
 rw [rounds_succ]
 go_wp2
 go_roundw
 case rel => exact ⟨k + 1, m, xs, by omega, by omega, by go_num, HO3.out, H1.out, HB3.out, HGOOD.out⟩
 case measure => simp [intOf]; omega
theorem nV (kind : Int) (lim : Nat) (f g : FuncId) (fb gb : Array Value) (nm : Nat -> List UInt8) (gd : Off -> Bool) (L : List (Off)) (A : Option Addr) (c : Nat) (w : World)
  (hf : fd f fb nm L.length w) (hg : ii g gb (fun x : Off => tP x) L gd w) (hk : KW w) (hl : L.length <= maxLen) (hlim : lim <= 40) (hnm : ∀ i < L.length, (nm i).length <= maxLen) (hR : Rd w A (L.flatMap jb))
  (ef : ∀ args w, (callFunc f args).run Tryz.prog w = .ok (.enter f args) w) (eg : ∀ args w, (callFunc g args).run Tryz.prog w = .ok (.enter g args) w) :
  Calls Tryz.prog 116 #[iV kind, iV lim, .slice A L.length c, .func (.func f) #[] fb, .func (.func g) #[] gb] w (xg w (L.length <= lim /\ ∀ i < L.length, cB nm gd L i)) := by
 have HF := aB hf
 have HG := aB hg
 have HK := aB hk
 have HN := aB hnm
 have HR := aB hR
 have HL := aB hl
 have EF := aB ef
 have EG := aB eg
 clear hf hg hk hnm hR ef eg
 unfold maxLen at hl
 have h0 := je w (.cells #[.slice A L.length c] 25) (.cells #[.func (.func f) #[] fb] 104) (.cells #[.func (.func g) #[] gb] 176) (.cells #[ck1 159 (w.heap.size + 1), ck1 160 (w.heap.size + 1), ck2 161 (w.heap.size + 1 + 1) w.heap.size] 203)
 go_enter Tryz.func116, Tryz.ntmps116
 go_upto_region 2 with fail
 change Code.wp _ _ _ _ ((((w.alloc (.cells #[.slice A L.length c] 25)).alloc (.cells #[.func (.func f) #[] fb] 104)).alloc (.cells #[.func (.func g) #[] gb] 176)).alloc (.cells #[ck1 159 (w.heap.size + 1), ck1 160 (w.heap.size + 1), ck2 161 (w.heap.size + 1 + 1) w.heap.size] 203))
 generalize ((((w.alloc (.cells #[.slice A L.length c] 25)).alloc (.cells #[.func (.func f) #[] fb] 104)).alloc (.cells #[.func (.func g) #[] gb] 176)).alloc (.cells #[ck1 159 (w.heap.size + 1), ck1 160 (w.heap.size + 1), ck2 161 (w.heap.size + 1 + 1) w.heap.size] 203)) = W at *
 generalize w.heap.size = X at h0 ⊢
 have HS := aB h0
 clear h0
 generalize hX1 : X + 1 = X1 at *
 generalize hX2 : X1 + 1 = X2 at *
 generalize hX3 : X2 + 1 = X3 at *
 clear hX1 hX2 hX3
 have c0 := aA 0 HS.out.q0
 go_upto_region 3 with fail
 go_cut [24, 25] from 21 to 25 (fun v i wx => ∃ M : Nat, M <= lim /\ M <= L.length /\ (M = lim ∨ M = L.length) /\ v = iV M /\ i = iV 0 /\ wx = W)
 case first =>
  by_cases hml : (lim : Int) < (L.length : Int)
  ·go_wp2_with fail
   go_meet
   exact ⟨lim, by omega, by omega, .inl rfl, rfl, rfl, rfl⟩
  ·go_wp2_with fail
   go_meet
   exact ⟨L.length, by omega, by omega, .inr rfl, rfl, rfl, rfl⟩
 case rest =>
 obtain ⟨M, hM1, hM2, hM3, rfl, rfl, hw⟩ := hcut
 rw [hw]
 clear hw
 clear c0
 have ix0 : ∀ w : World, (Instr.index 203 (.agg #[ck1 159 X1, ck1 160 X1, ck2 161 X2 X]) (iV 0)).run Tryz.prog w = .ok (ck1 159 X1) w := fun _ => by kernel_rfl
 have ix1 : ∀ w : World, (Instr.index 203 (.agg #[ck1 159 X1, ck1 160 X1, ck2 161 X2 X]) (iV 1)).run Tryz.prog w = .ok (ck1 160 X1) w := fun _ => by kernel_rfl
 have ix2 : ∀ w : World, (Instr.index 203 (.agg #[ck1 159 X1, ck1 160 X1, ck2 161 X2 X]) (iV 2)).run Tryz.prog w = .ok (ck2 161 X2 X) w := fun _ => by kernel_rfl
 go_wp2_with fail
 go_loopw [25, 12] (fun i v wr => ∃ (k m : Nat) (xs : List Value), k <= M /\ m <= k /\ i = iV k /\ Hid (wr.ownsRow (X3 + 1) 150 3 v m xs) /\ Hid (∀ x ∈ xs, x.oneCell' = true) /\ Hid (Below (X3 + 1) W wr) /\ Hid (m = 0 ↔ ∀ j < k, cB nm gd L j)) (fun i _ _ => lim + 1 - (intOf i).toNat)
 case atStart => exact ⟨0, 0, [], by omega, by omega, rfl, World.ownsRow_nil _ _ _ _, (fun x hx => by cases hx), aJ _ _, ⟨fun _ j hj => by omega, fun _ => rfl⟩⟩
 case round =>
 obtain ⟨k, m, xs, hk, hmk, rfl, HO, H1, HB, HQ⟩ := hrel
 obtain ⟨A2, c2, rfl⟩ := b9 HO.out
 have HS1 := aB (HS.out.keep HB.out)
 have m0 : (0 : Int) <= (k : Int) := by omega
 by_cases hlt : k < M
 case neg =>
  have m1 : ¬ (k : Int) < (M : Int) := by omega
  have r0 := aA 0 HS1.out.q0
  have HFIN : Hid (Below w.heap.size w W) := HS.out.bel
  by_cases hml : (lim : Int) < (L.length : Int)
  ·go_wp2_with (refine bG (by rfl) (.tmp 50) (.tmp 54) (by rfl) (by rfl) (by rfl) HO.out (by omega) HS.out.len HB.out ?_; intro A4 c4 w4 ho hb; have HO4 := aB ho; have HB4 := aB hb; clear ho hb)
   go_ret
   exact ⟨A4, m + 1, c4, xs ++ [iV kind, iV lim, iV 2], rfl, cn HO4.out (by have := HS.out.eq; have := HS.out.lt; omega), fI H1.out, ⟨fun h => by omega, fun h => by omega⟩, by omega, (HS.out.keep HB4.out).bel⟩
  ·go_wp2
   go_ret
   exact ⟨A2, m, c2, xs, rfl, cn HO.out (by have := HS.out.eq; have := HS.out.lt; omega), H1.out, HQ.out.trans ⟨fun h => ⟨by omega, fun i hi => h i (by omega)⟩, fun h j hj => h.2 j (by omega)⟩, by omega, HS1.out.bel⟩
 have m1 : (k : Int) < (M : Int) := by omega
 have hlt2 : k < L.length := by omega
 have r1 := aA 0 HS1.out.q1
 have hx : L[k]? = some L[k] := aD _
 generalize L[k] = x at hx
 have HXX := aB hx; clear hx
 go_wp2_with (refine wpList_load_row (by rfl) 203 (.tmp 11) (by rfl) X3 (by rfl) 203 #[ck1 159 X1, ck1 160 X1, ck2 161 X2 X] (0, 0) _ HS1.out.q3 Tryz.underlying203 (by rfl) (by kernel_rfl) ?_)
 refine wp_loop_rounds 4 ?_
 rw [rounds_succ]
 go_wp2_with fail
 refine (tp f fb nm L.length k X1 _ (HF.out.below HS1.out.bel) (HK.out.below HS1.out.bel) hlt2 (HN.out k hlt2) r1 EF.out).mono ?_
 rintro e w1 ⟨rfl, hb⟩
 have HB1 : Hid (Below (X3 + 1) W w1) := HB.out.trans (hb.mono (aG HS.out.len HB.out.size))
 have HO1 := aB (aq HO.out hb)
 have HS2 := aB (HS.out.keep HB1.out)
 clear r1 hb HO HB HS1
 cases hn1 : bI (nm k)
 case false =>
  have HBAD : Hid (m + 1 = 0 ↔ ∀ j < k + 1, cB nm gd L j) := en (fun h => by rw [h.1] at hn1; cases hn1)
  clear hn1
  go_wp2_with (refine bG (by rfl) (.tmp 37) (.tmp 42) (by rfl) (by rfl) (by rfl) HO1.out (by omega) HS.out.len HB1.out ?_; intro A4 c4 w4 ho hb; have HO4 := aB ho; have HB4 := aB hb; clear ho hb)
  go_roundw
  case rel => exact ⟨k + 1, m + 1, _, by omega, by omega, by go_num, HO4.out, fI H1.out, HB4.out, HBAD.out⟩
  case measure => simp [intOf]; omega
 have HN1 := aB hn1; clear hn1
 go_wp2
 rw [rounds_succ]
 have r1 := aA 0 HS2.out.q1
 go_wp2_with fail
 refine (tj f fb nm L.length k X1 _ (HF.out.below HS2.out.bel) hlt2 HL.out r1 EF.out).mono ?_
 rintro e w2 ⟨⟨y, rfl, hy⟩, hb⟩
 have HY := aB hy; clear hy
 have HB2 : Hid (Below (X3 + 1) W w2) := HB1.out.trans (hb.mono (aG HS.out.len HB1.out.size))
 have HO2 := aB (aq HO1.out hb)
 have HS3 := aB (HS.out.keep HB2.out)
 clear r1 hb HO1 HB1 HS2
 by_cases hy0 : y = 0
 case neg =>
  have HBAD : Hid (m + 1 = 0 ↔ ∀ j < k + 1, cB nm gd L j) := en (fun h => hy0 (HY.out.2 h.2.1))
  have y1 : (y != 0) = true := by simpa using hy0
  have y2 : (y == 0) = false := by simpa using hy0
  clear hy0
  go_wp2_with (refine bG (by rfl) (.tmp 37) (.tmp 42) (by rfl) (by rfl) (by rfl) HO2.out (by omega) HS.out.len HB2.out ?_; intro A4 c4 w4 ho hb; have HO4 := aB ho; have HB4 := aB hb; clear ho hb)
  go_roundw
  case rel => exact ⟨k + 1, m + 1, _, by omega, by omega, by go_num, HO4.out, fI H1.out, HB4.out, HBAD.out⟩
  case measure => simp [intOf]; omega
 have HN2 : Hid (bS nm k = true) := HY.out.1 hy0
 subst hy0
 clear HY
 go_wp2
 rw [rounds_succ]
 have r0 := aA 0 HS3.out.q0
 have r2 := aA 0 HS3.out.q2
 go_wp2_with fail
 refine (tf g gb gd L A c k X2 X x _ (HG.out.below HS3.out.bel) HL.out (HR.out.below HS3.out.bel) HXX.out r2 r0 EG.out).mono ?_
 rintro e w3 ⟨rfl, hb⟩
 have HB3 : Hid (Below (X3 + 1) W w3) := HB2.out.trans (hb.mono (aG HS.out.len HB2.out.size))
 have HO3 := aB (aq HO2.out hb)
 clear r0 r2 hb HO2 HB2 HS3
 cases hn3 : gd x
 case false =>
  have HBAD : Hid (m + 1 = 0 ↔ ∀ j < k + 1, cB nm gd L j) := en (fun h => by rw [h.2.2 x HXX.out] at hn3; cases hn3)
  clear hn3
  go_wp2_with (refine bG (by rfl) (.tmp 37) (.tmp 42) (by rfl) (by rfl) (by rfl) HO3.out (by omega) HS.out.len HB3.out ?_; intro A4 c4 w4 ho hb; have HO4 := aB ho; have HB4 := aB hb; clear ho hb)
  go_roundw
  case rel => exact ⟨k + 1, m + 1, _, by omega, by omega, by go_num, HO4.out, fI H1.out, HB4.out, HBAD.out⟩
  case measure => simp [intOf]; omega
 have HGOOD : Hid (m = 0 ↔ ∀ j < k + 1, cB nm gd L j) := kn HQ.out ⟨HN1.out, HN2.out, fun z hz => by rw [HXX.out] at hz; cases hz; exact hn3⟩
 clear hn3 HQ
 go_wp2
 rw [rounds_succ]
 go_wp2
 go_roundw
 case rel => exact ⟨k + 1, m, xs, by omega, by omega, by go_num, HO3.out, H1.out, HB3.out, HGOOD.out⟩
 case measure => simp [intOf]; omega
theorem nW (kind : Int) (lim : Nat) (f g : FuncId) (fb gb : Array Value) (nm : Nat -> List UInt8) (gd : Lin -> Bool) (L : List (Lin)) (A : Option Addr) (c : Nat) (w : World)
  (hf : fd f fb nm L.length w) (hg : ii g gb (fun x : Lin => ud x) L gd w) (hk : KW w) (hl : L.length <= maxLen) (hlim : lim <= 40) (hnm : ∀ i < L.length, (nm i).length <= maxLen) (hR : Rd w A (L.flatMap kV))
  (ef : ∀ args w, (callFunc f args).run Tryz.prog w = .ok (.enter f args) w) (eg : ∀ args w, (callFunc g args).run Tryz.prog w = .ok (.enter g args) w) :
  Calls Tryz.prog 120 #[iV kind, iV lim, .slice A L.length c, .func (.func f) #[] fb, .func (.func g) #[] gb] w (xg w (L.length <= lim /\ ∀ i < L.length, cB nm gd L i)) := by
 have HF := aB hf
 have HG := aB hg
 have HK := aB hk
 have HN := aB hnm
 have HR := aB hR
 have HL := aB hl
 have EF := aB ef
 have EG := aB eg
 clear hf hg hk hnm hR ef eg
 unfold maxLen at hl
 have h0 := je w (.cells #[.slice A L.length c] 26) (.cells #[.func (.func f) #[] fb] 104) (.cells #[.func (.func g) #[] gb] 179) (.cells #[ck1 166 (w.heap.size + 1), ck1 167 (w.heap.size + 1), ck2 168 (w.heap.size + 1 + 1) w.heap.size] 203)
 go_enter Tryz.func120, Tryz.ntmps120
 go_upto_region 2 with fail
 change Code.wp _ _ _ _ ((((w.alloc (.cells #[.slice A L.length c] 26)).alloc (.cells #[.func (.func f) #[] fb] 104)).alloc (.cells #[.func (.func g) #[] gb] 179)).alloc (.cells #[ck1 166 (w.heap.size + 1), ck1 167 (w.heap.size + 1), ck2 168 (w.heap.size + 1 + 1) w.heap.size] 203))
 generalize ((((w.alloc (.cells #[.slice A L.length c] 26)).alloc (.cells #[.func (.func f) #[] fb] 104)).alloc (.cells #[.func (.func g) #[] gb] 179)).alloc (.cells #[ck1 166 (w.heap.size + 1), ck1 167 (w.heap.size + 1), ck2 168 (w.heap.size + 1 + 1) w.heap.size] 203)) = W at *
 generalize w.heap.size = X at h0 ⊢
 have HS := aB h0
 clear h0
 generalize hX1 : X + 1 = X1 at *
 generalize hX2 : X1 + 1 = X2 at *
 generalize hX3 : X2 + 1 = X3 at *
 clear hX1 hX2 hX3
 have c0 := aA 0 HS.out.q0
 go_upto_region 3 with fail
 go_cut [24, 25] from 21 to 25 (fun v i wx => ∃ M : Nat, M <= lim /\ M <= L.length /\ (M = lim ∨ M = L.length) /\ v = iV M /\ i = iV 0 /\ wx = W)
 case first =>
  by_cases hml : (lim : Int) < (L.length : Int)
  ·go_wp2_with fail
   go_meet
   exact ⟨lim, by omega, by omega, .inl rfl, rfl, rfl, rfl⟩
  ·go_wp2_with fail
   go_meet
   exact ⟨L.length, by omega, by omega, .inr rfl, rfl, rfl, rfl⟩
 case rest =>
 obtain ⟨M, hM1, hM2, hM3, rfl, rfl, hw⟩ := hcut
 rw [hw]
 clear hw
 clear c0
 have ix0 : ∀ w : World, (Instr.index 203 (.agg #[ck1 166 X1, ck1 167 X1, ck2 168 X2 X]) (iV 0)).run Tryz.prog w = .ok (ck1 166 X1) w := fun _ => by kernel_rfl
 have ix1 : ∀ w : World, (Instr.index 203 (.agg #[ck1 166 X1, ck1 167 X1, ck2 168 X2 X]) (iV 1)).run Tryz.prog w = .ok (ck1 167 X1) w := fun _ => by kernel_rfl
 have ix2 : ∀ w : World, (Instr.index 203 (.agg #[ck1 166 X1, ck1 167 X1, ck2 168 X2 X]) (iV 2)).run Tryz.prog w = .ok (ck2 168 X2 X) w := fun _ => by kernel_rfl
 go_wp2_with fail
 go_loopw [25, 12] (fun i v wr => ∃ (k m : Nat) (xs : List Value), k <= M /\ m <= k /\ i = iV k /\ Hid (wr.ownsRow (X3 + 1) 150 3 v m xs) /\ Hid (∀ x ∈ xs, x.oneCell' = true) /\ Hid (Below (X3 + 1) W wr) /\ Hid (m = 0 ↔ ∀ j < k, cB nm gd L j)) (fun i _ _ => lim + 1 - (intOf i).toNat)
 case atStart => exact ⟨0, 0, [], by omega, by omega, rfl, World.ownsRow_nil _ _ _ _, (fun x hx => by cases hx), aJ _ _, ⟨fun _ j hj => by omega, fun _ => rfl⟩⟩
 case round =>
 obtain ⟨k, m, xs, hk, hmk, rfl, HO, H1, HB, HQ⟩ := hrel
 obtain ⟨A2, c2, rfl⟩ := b9 HO.out
 have HS1 := aB (HS.out.keep HB.out)
 have m0 : (0 : Int) <= (k : Int) := by omega
 by_cases hlt : k < M
 case neg =>
  have m1 : ¬ (k : Int) < (M : Int) := by omega
  have r0 := aA 0 HS1.out.q0
  have HFIN : Hid (Below w.heap.size w W) := HS.out.bel
  by_cases hml : (lim : Int) < (L.length : Int)
  ·go_wp2_with (refine bG (by rfl) (.tmp 50) (.tmp 54) (by rfl) (by rfl) (by rfl) HO.out (by omega) HS.out.len HB.out ?_; intro A4 c4 w4 ho hb; have HO4 := aB ho; have HB4 := aB hb; clear ho hb)
   go_ret
   exact ⟨A4, m + 1, c4, xs ++ [iV kind, iV lim, iV 2], rfl, cn HO4.out (by have := HS.out.eq; have := HS.out.lt; omega), fI H1.out, ⟨fun h => by omega, fun h => by omega⟩, by omega, (HS.out.keep HB4.out).bel⟩
  ·go_wp2
   go_ret
   exact ⟨A2, m, c2, xs, rfl, cn HO.out (by have := HS.out.eq; have := HS.out.lt; omega), H1.out, HQ.out.trans ⟨fun h => ⟨by omega, fun i hi => h i (by omega)⟩, fun h j hj => h.2 j (by omega)⟩, by omega, HS1.out.bel⟩
 have m1 : (k : Int) < (M : Int) := by omega
 have hlt2 : k < L.length := by omega
 have r1 := aA 0 HS1.out.q1
 have hx : L[k]? = some L[k] := aD _
 generalize L[k] = x at hx
 have HXX := aB hx; clear hx
 go_wp2_with (refine wpList_load_row (by rfl) 203 (.tmp 11) (by rfl) X3 (by rfl) 203 #[ck1 166 X1, ck1 167 X1, ck2 168 X2 X] (0, 0) _ HS1.out.q3 Tryz.underlying203 (by rfl) (by kernel_rfl) ?_)
 refine wp_loop_rounds 4 ?_
 rw [rounds_succ]
 go_wp2_with fail
 refine (tq f fb nm L.length k X1 _ (HF.out.below HS1.out.bel) (HK.out.below HS1.out.bel) hlt2 (HN.out k hlt2) r1 EF.out).mono ?_
 rintro e w1 ⟨rfl, hb⟩
 have HB1 : Hid (Below (X3 + 1) W w1) := HB.out.trans (hb.mono (aG HS.out.len HB.out.size))
 have HO1 := aB (aq HO.out hb)
 have HS2 := aB (HS.out.keep HB1.out)
 clear r1 hb HO HB HS1
 cases hn1 : bI (nm k)
 case false =>
  have HBAD : Hid (m + 1 = 0 ↔ ∀ j < k + 1, cB nm gd L j) := en (fun h => by rw [h.1] at hn1; cases hn1)
  clear hn1
  go_wp2_with (refine bG (by rfl) (.tmp 37) (.tmp 42) (by rfl) (by rfl) (by rfl) HO1.out (by omega) HS.out.len HB1.out ?_; intro A4 c4 w4 ho hb; have HO4 := aB ho; have HB4 := aB hb; clear ho hb)
  go_roundw
  case rel => exact ⟨k + 1, m + 1, _, by omega, by omega, by go_num, HO4.out, fI H1.out, HB4.out, HBAD.out⟩
  case measure => simp [intOf]; omega
 have HN1 := aB hn1; clear hn1
 go_wp2
 rw [rounds_succ]
 have r1 := aA 0 HS2.out.q1
 go_wp2_with fail
 refine (tk f fb nm L.length k X1 _ (HF.out.below HS2.out.bel) hlt2 HL.out r1 EF.out).mono ?_
 rintro e w2 ⟨⟨y, rfl, hy⟩, hb⟩
 have HY := aB hy; clear hy
 have HB2 : Hid (Below (X3 + 1) W w2) := HB1.out.trans (hb.mono (aG HS.out.len HB1.out.size))
 have HO2 := aB (aq HO1.out hb)
 have HS3 := aB (HS.out.keep HB2.out)
 clear r1 hb HO1 HB1 HS2
 by_cases hy0 : y = 0
 case neg =>
  have HBAD : Hid (m + 1 = 0 ↔ ∀ j < k + 1, cB nm gd L j) := en (fun h => hy0 (HY.out.2 h.2.1))
  have y1 : (y != 0) = true := by simpa using hy0
  have y2 : (y == 0) = false := by simpa using hy0
  clear hy0
  go_wp2_with (refine bG (by rfl) (.tmp 37) (.tmp 42) (by rfl) (by rfl) (by rfl) HO2.out (by omega) HS.out.len HB2.out ?_; intro A4 c4 w4 ho hb; have HO4 := aB ho; have HB4 := aB hb; clear ho hb)
  go_roundw
  case rel => exact ⟨k + 1, m + 1, _, by omega, by omega, by go_num, HO4.out, fI H1.out, HB4.out, HBAD.out⟩
  case measure => simp [intOf]; omega
 have HN2 : Hid (bS nm k = true) := HY.out.1 hy0
 subst hy0
 clear HY
 go_wp2
 rw [rounds_succ]
 have r0 := aA 0 HS3.out.q0
 have r2 := aA 0 HS3.out.q2
 go_wp2_with fail
 refine (tg g gb gd L A c k X2 X x _ (HG.out.below HS3.out.bel) HL.out (HR.out.below HS3.out.bel) HXX.out r2 r0 EG.out).mono ?_
 rintro e w3 ⟨rfl, hb⟩
 have HB3 : Hid (Below (X3 + 1) W w3) := HB2.out.trans (hb.mono (aG HS.out.len HB2.out.size))
 have HO3 := aB (aq HO2.out hb)
 clear r0 r2 hb HO2 HB2 HS3
 cases hn3 : gd x
 case false =>
  have HBAD : Hid (m + 1 = 0 ↔ ∀ j < k + 1, cB nm gd L j) := en (fun h => by rw [h.2.2 x HXX.out] at hn3; cases hn3)
  clear hn3
  go_wp2_with (refine bG (by rfl) (.tmp 37) (.tmp 42) (by rfl) (by rfl) (by rfl) HO3.out (by omega) HS.out.len HB3.out ?_; intro A4 c4 w4 ho hb; have HO4 := aB ho; have HB4 := aB hb; clear ho hb)
  go_roundw
  case rel => exact ⟨k + 1, m + 1, _, by omega, by omega, by go_num, HO4.out, fI H1.out, HB4.out, HBAD.out⟩
  case measure => simp [intOf]; omega
 have HGOOD : Hid (m = 0 ↔ ∀ j < k + 1, cB nm gd L j) := kn HQ.out ⟨HN1.out, HN2.out, fun z hz => by rw [HXX.out] at hz; cases hz; exact hn3⟩
 clear hn3 HQ
 go_wp2
 rw [rounds_succ]
 go_wp2
 go_roundw
 case rel => exact ⟨k + 1, m, xs, by omega, by omega, by go_num, HO3.out, H1.out, HB3.out, HGOOD.out⟩
 case measure => simp [intOf]; omega
theorem nX (kind : Int) (lim : Nat) (f g : FuncId) (fb gb : Array Value) (nm : Nat -> List UInt8) (gd : Cls -> Bool) (L : List (Cls)) (A : Option Addr) (c : Nat) (w : World)
  (hf : fd f fb nm L.length w) (hg : ii g gb (fun x : Cls => clsV x) L gd w) (hk : KW w) (hl : L.length <= maxLen) (hlim : lim <= 40) (hnm : ∀ i < L.length, (nm i).length <= maxLen) (hR : Rd w A (L.flatMap kW))
  (ef : ∀ args w, (callFunc f args).run Tryz.prog w = .ok (.enter f args) w) (eg : ∀ args w, (callFunc g args).run Tryz.prog w = .ok (.enter g args) w) :
  Calls Tryz.prog 124 #[iV kind, iV lim, .slice A L.length c, .func (.func f) #[] fb, .func (.func g) #[] gb] w (xg w (L.length <= lim /\ ∀ i < L.length, cB nm gd L i)) := by
 have HF := aB hf
 have HG := aB hg
 have HK := aB hk
 have HN := aB hnm
 have HR := aB hR
 have HL := aB hl
 have EF := aB ef
 have EG := aB eg
 clear hf hg hk hnm hR ef eg
 unfold maxLen at hl
 have h0 := je w (.cells #[.slice A L.length c] 27) (.cells #[.func (.func f) #[] fb] 104) (.cells #[.func (.func g) #[] gb] 181) (.cells #[ck1 170 (w.heap.size + 1), ck1 171 (w.heap.size + 1), ck2 172 (w.heap.size + 1 + 1) w.heap.size] 203)
 go_enter Tryz.func124, Tryz.ntmps124
 go_upto_region 2 with fail
 change Code.wp _ _ _ _ ((((w.alloc (.cells #[.slice A L.length c] 27)).alloc (.cells #[.func (.func f) #[] fb] 104)).alloc (.cells #[.func (.func g) #[] gb] 181)).alloc (.cells #[ck1 170 (w.heap.size + 1), ck1 171 (w.heap.size + 1), ck2 172 (w.heap.size + 1 + 1) w.heap.size] 203))
 generalize ((((w.alloc (.cells #[.slice A L.length c] 27)).alloc (.cells #[.func (.func f) #[] fb] 104)).alloc (.cells #[.func (.func g) #[] gb] 181)).alloc (.cells #[ck1 170 (w.heap.size + 1), ck1 171 (w.heap.size + 1), ck2 172 (w.heap.size + 1 + 1) w.heap.size] 203)) = W at *
 generalize w.heap.size = X at h0 ⊢
 have HS := aB h0
 clear h0
 generalize hX1 : X + 1 = X1 at *
 generalize hX2 : X1 + 1 = X2 at *
 generalize hX3 : X2 + 1 = X3 at *
 clear hX1 hX2 hX3
 have c0 := aA 0 HS.out.q0
 go_upto_region 3 with fail
 go_cut [24, 25] from 21 to 25 (fun v i wx => ∃ M : Nat, M <= lim /\ M <= L.length /\ (M = lim ∨ M = L.length) /\ v = iV M /\ i = iV 0 /\ wx = W)
 case first =>
  by_cases hml : (lim : Int) < (L.length : Int)
  ·go_wp2_with fail
   go_meet
   exact ⟨lim, by omega, by omega, .inl rfl, rfl, rfl, rfl⟩
  ·go_wp2_with fail
   go_meet
   exact ⟨L.length, by omega, by omega, .inr rfl, rfl, rfl, rfl⟩
 case rest =>
 obtain ⟨M, hM1, hM2, hM3, rfl, rfl, hw⟩ := hcut
 rw [hw]
 clear hw
 clear c0
 have ix0 : ∀ w : World, (Instr.index 203 (.agg #[ck1 170 X1, ck1 171 X1, ck2 172 X2 X]) (iV 0)).run Tryz.prog w = .ok (ck1 170 X1) w := fun _ => by kernel_rfl
 have ix1 : ∀ w : World, (Instr.index 203 (.agg #[ck1 170 X1, ck1 171 X1, ck2 172 X2 X]) (iV 1)).run Tryz.prog w = .ok (ck1 171 X1) w := fun _ => by kernel_rfl
 have ix2 : ∀ w : World, (Instr.index 203 (.agg #[ck1 170 X1, ck1 171 X1, ck2 172 X2 X]) (iV 2)).run Tryz.prog w = .ok (ck2 172 X2 X) w := fun _ => by kernel_rfl
 go_wp2_with fail
 go_loopw [25, 12] (fun i v wr => ∃ (k m : Nat) (xs : List Value), k <= M /\ m <= k /\ i = iV k /\ Hid (wr.ownsRow (X3 + 1) 150 3 v m xs) /\ Hid (∀ x ∈ xs, x.oneCell' = true) /\ Hid (Below (X3 + 1) W wr) /\ Hid (m = 0 ↔ ∀ j < k, cB nm gd L j)) (fun i _ _ => lim + 1 - (intOf i).toNat)
 case atStart => exact ⟨0, 0, [], by omega, by omega, rfl, World.ownsRow_nil _ _ _ _, (fun x hx => by cases hx), aJ _ _, ⟨fun _ j hj => by omega, fun _ => rfl⟩⟩
 case round =>
 obtain ⟨k, m, xs, hk, hmk, rfl, HO, H1, HB, HQ⟩ := hrel
 obtain ⟨A2, c2, rfl⟩ := b9 HO.out
 have HS1 := aB (HS.out.keep HB.out)
 have m0 : (0 : Int) <= (k : Int) := by omega
 by_cases hlt : k < M
 case neg =>
  have m1 : ¬ (k : Int) < (M : Int) := by omega
  have r0 := aA 0 HS1.out.q0
  have HFIN : Hid (Below w.heap.size w W) := HS.out.bel
  by_cases hml : (lim : Int) < (L.length : Int)
  ·go_wp2_with (refine bG (by rfl) (.tmp 50) (.tmp 54) (by rfl) (by rfl) (by rfl) HO.out (by omega) HS.out.len HB.out ?_; intro A4 c4 w4 ho hb; have HO4 := aB ho; have HB4 := aB hb; clear ho hb)
   go_ret
   exact ⟨A4, m + 1, c4, xs ++ [iV kind, iV lim, iV 2], rfl, cn HO4.out (by have := HS.out.eq; have := HS.out.lt; omega), fI H1.out, ⟨fun h => by omega, fun h => by omega⟩, by omega, (HS.out.keep HB4.out).bel⟩
  ·go_wp2
   go_ret
   exact ⟨A2, m, c2, xs, rfl, cn HO.out (by have := HS.out.eq; have := HS.out.lt; omega), H1.out, HQ.out.trans ⟨fun h => ⟨by omega, fun i hi => h i (by omega)⟩, fun h j hj => h.2 j (by omega)⟩, by omega, HS1.out.bel⟩
 have m1 : (k : Int) < (M : Int) := by omega
 have hlt2 : k < L.length := by omega
 have r1 := aA 0 HS1.out.q1
 have hx : L[k]? = some L[k] := aD _
 generalize L[k] = x at hx
 have HXX := aB hx; clear hx
 go_wp2_with (refine wpList_load_row (by rfl) 203 (.tmp 11) (by rfl) X3 (by rfl) 203 #[ck1 170 X1, ck1 171 X1, ck2 172 X2 X] (0, 0) _ HS1.out.q3 Tryz.underlying203 (by rfl) (by kernel_rfl) ?_)
 refine wp_loop_rounds 4 ?_
 rw [rounds_succ]
 go_wp2_with fail
 refine (tu f fb nm L.length k X1 _ (HF.out.below HS1.out.bel) (HK.out.below HS1.out.bel) hlt2 (HN.out k hlt2) r1 EF.out).mono ?_
 rintro e w1 ⟨rfl, hb⟩
 have HB1 : Hid (Below (X3 + 1) W w1) := HB.out.trans (hb.mono (aG HS.out.len HB.out.size))
 have HO1 := aB (aq HO.out hb)
 have HS2 := aB (HS.out.keep HB1.out)
 clear r1 hb HO HB HS1
 cases hn1 : bI (nm k)
 case false =>
  have HBAD : Hid (m + 1 = 0 ↔ ∀ j < k + 1, cB nm gd L j) := en (fun h => by rw [h.1] at hn1; cases hn1)
  clear hn1
  go_wp2_with (refine bG (by rfl) (.tmp 37) (.tmp 42) (by rfl) (by rfl) (by rfl) HO1.out (by omega) HS.out.len HB1.out ?_; intro A4 c4 w4 ho hb; have HO4 := aB ho; have HB4 := aB hb; clear ho hb)
  go_roundw
  case rel => exact ⟨k + 1, m + 1, _, by omega, by omega, by go_num, HO4.out, fI H1.out, HB4.out, HBAD.out⟩
  case measure => simp [intOf]; omega
 have HN1 := aB hn1; clear hn1
 go_wp2
 rw [rounds_succ]
 have r1 := aA 0 HS2.out.q1
 go_wp2_with fail
 refine (tm f fb nm L.length k X1 _ (HF.out.below HS2.out.bel) hlt2 HL.out r1 EF.out).mono ?_
 rintro e w2 ⟨⟨y, rfl, hy⟩, hb⟩
 have HY := aB hy; clear hy
 have HB2 : Hid (Below (X3 + 1) W w2) := HB1.out.trans (hb.mono (aG HS.out.len HB1.out.size))
 have HO2 := aB (aq HO1.out hb)
 have HS3 := aB (HS.out.keep HB2.out)
 clear r1 hb HO1 HB1 HS2
 by_cases hy0 : y = 0
 case neg =>
  have HBAD : Hid (m + 1 = 0 ↔ ∀ j < k + 1, cB nm gd L j) := en (fun h => hy0 (HY.out.2 h.2.1))
  have y1 : (y != 0) = true := by simpa using hy0
  have y2 : (y == 0) = false := by simpa using hy0
  clear hy0
  go_wp2_with (refine bG (by rfl) (.tmp 37) (.tmp 42) (by rfl) (by rfl) (by rfl) HO2.out (by omega) HS.out.len HB2.out ?_; intro A4 c4 w4 ho hb; have HO4 := aB ho; have HB4 := aB hb; clear ho hb)
  go_roundw
  case rel => exact ⟨k + 1, m + 1, _, by omega, by omega, by go_num, HO4.out, fI H1.out, HB4.out, HBAD.out⟩
  case measure => simp [intOf]; omega
 have HN2 : Hid (bS nm k = true) := HY.out.1 hy0
 subst hy0
 clear HY
 go_wp2
 rw [rounds_succ]
 have r0 := aA 0 HS3.out.q0
 have r2 := aA 0 HS3.out.q2
 go_wp2_with fail
 refine (th g gb gd L A c k X2 X x _ (HG.out.below HS3.out.bel) HL.out (HR.out.below HS3.out.bel) HXX.out r2 r0 EG.out).mono ?_
 rintro e w3 ⟨rfl, hb⟩
 have HB3 : Hid (Below (X3 + 1) W w3) := HB2.out.trans (hb.mono (aG HS.out.len HB2.out.size))
 have HO3 := aB (aq HO2.out hb)
 clear r0 r2 hb HO2 HB2 HS3
 cases hn3 : gd x
 case false =>
  have HBAD : Hid (m + 1 = 0 ↔ ∀ j < k + 1, cB nm gd L j) := en (fun h => by rw [h.2.2 x HXX.out] at hn3; cases hn3)
  clear hn3
  go_wp2_with (refine bG (by rfl) (.tmp 37) (.tmp 42) (by rfl) (by rfl) (by rfl) HO3.out (by omega) HS.out.len HB3.out ?_; intro A4 c4 w4 ho hb; have HO4 := aB ho; have HB4 := aB hb; clear ho hb)
  go_roundw
  case rel => exact ⟨k + 1, m + 1, _, by omega, by omega, by go_num, HO4.out, fI H1.out, HB4.out, HBAD.out⟩
  case measure => simp [intOf]; omega
 have HGOOD : Hid (m = 0 ↔ ∀ j < k + 1, cB nm gd L j) := kn HQ.out ⟨HN1.out, HN2.out, fun z hz => by rw [HXX.out] at hz; cases hz; exact hn3⟩
 clear hn3 HQ
 go_wp2
 rw [rounds_succ]
 go_wp2
 go_roundw
 case rel => exact ⟨k + 1, m, xs, by omega, by omega, by go_num, HO3.out, H1.out, HB3.out, HGOOD.out⟩
 case measure => simp [intOf]; omega
end Go.Proofs.YtpeaiphdkgifaaaGreatDoor
