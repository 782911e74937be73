/-
  The walk over survey.check: Office.
-/
import Derived.Test.YtpeaiphdkgifaaaGreatDoorWaf
namespace Go.Proofs.YtpeaiphdkgifaaaGreatDoor
open Go.RowKit
set_option maxHeartbeats 20000000
set_option maxRecDepth 100000
theorem check_off (kind : Int) (lim : Nat) (f g : FuncId) (fb gb : Array Value) (nm : Nat -> List UInt8) (gd : Off -> Bool) (L : List (Off)) (A : Option Addr) (c : Nat) (w : World)
  (hf : NameF f fb nm L.length w) (hg : GoodF g gb (fun x : Off => offV x) L gd w) (hk : KW w) (hl : L.length <= maxLen) (hlim : lim <= 40) (hnm : ∀ i < L.length, (nm i).length <= maxLen) (hR : Rd w A (L.flatMap encOff))
  (ef : ∀ args w, (callFunc f args).run Tryz.prog w = .ok (.enter f args) w) (eg : ∀ args w, (callFunc g args).run Tryz.prog w = .ok (.enter g args) w) :
  Calls Tryz.prog 116 #[iV kind, iV lim, .slice A L.length c, .func (.func f) #[] fb, .func (.func g) #[] gb] w (ChkR w (L.length <= lim /\ ∀ i < L.length, okAt nm gd L i)) := by
 obtain ⟨i0, hi0, hz0, hz1, hz2⟩ := info_parts ftInfo
 have HF := Lib.hid hf; clear hf
 have HG := Lib.hid hg; clear hg
 have HK := Lib.hid hk; clear hk
 have HN := Lib.hid hnm; clear hnm
 have HR := Lib.hid hR; clear hR
 have HL := Lib.hid hl
 unfold maxLen at hl
 have EF := Lib.hid ef; clear ef
 have EG := Lib.hid eg; clear eg
 obtain ⟨W, hW⟩ : ∃ W, (((w.alloc (.cells #[.slice A L.length c] 25)).alloc (.cells #[.func (.func f) #[] fb] 104)).alloc (.cells #[.func (.func g) #[] gb] 176)).alloc (.cells #[(.func (.func 159) #[] #[.pointer (some ⟨w.heap.size + 1, 0, none⟩)]), (.func (.func 160) #[] #[.pointer (some ⟨w.heap.size + 1, 0, none⟩)]), (.func (.func 161) #[] #[.pointer (some ⟨w.heap.size + 1 + 1, 0, none⟩), .pointer (some ⟨w.heap.size, 0, none⟩)])] 203) = W := ⟨_, rfl⟩
 have hb0 : Below w.heap.size w W := by
  rw [<- hW]
  exact ((((Below.refl _ w).alloc (Nat.le_refl _) _).alloc (by simp) _).alloc (by simp; omega) _).alloc (by simp; omega) _
 have hc0 : W.cell? ⟨w.heap.size, 0, none⟩ = some (.slice A L.length c) := by
  rw [<- hW]
  exact cell_of_row _ _ 0 _ _ _ ((Below.heap_alloc _ _ _ (by simp; omega)).trans ((Below.heap_alloc _ _ _ (by simp; omega)).trans ((Below.heap_alloc _ _ _ (by simp)).trans (heap_alloc_new _ _))))
 have hc1 : W.cell? ⟨w.heap.size + 1, 0, none⟩ = some (.func (.func f) #[] fb) := by
  rw [<- hW]
  have := heap_alloc_new (w.alloc (.cells #[.slice A L.length c] 25)) (.cells #[.func (.func f) #[] fb] 104)
  rw [World.size_alloc] at this
  exact cell_of_row _ _ 0 _ _ _ ((Below.heap_alloc _ _ _ (by simp)).trans ((Below.heap_alloc _ _ _ (by simp)).trans this))
 have hc2 : W.cell? ⟨w.heap.size + 1 + 1, 0, none⟩ = some (.func (.func g) #[] gb) := by
  rw [<- hW]
  have := heap_alloc_new ((w.alloc (.cells #[.slice A L.length c] 25)).alloc (.cells #[.func (.func f) #[] fb] 104)) (.cells #[.func (.func g) #[] gb] 176)
  rw [World.size_alloc, World.size_alloc] at this
  exact cell_of_row _ _ 0 _ _ _ ((Below.heap_alloc _ _ _ (by simp)).trans this)
 have hc3 : W.heap[w.heap.size + 1 + 1 + 1]? = some (.cells #[(.func (.func 159) #[] #[.pointer (some ⟨w.heap.size + 1, 0, none⟩)]), (.func (.func 160) #[] #[.pointer (some ⟨w.heap.size + 1, 0, none⟩)]), (.func (.func 161) #[] #[.pointer (some ⟨w.heap.size + 1 + 1, 0, none⟩), .pointer (some ⟨w.heap.size, 0, none⟩)])] 203 (0, 0)) := by
  rw [<- hW]
  have := heap_alloc_new (((w.alloc (.cells #[.slice A L.length c] 25)).alloc (.cells #[.func (.func f) #[] fb] 104)).alloc (.cells #[.func (.func g) #[] gb] 176)) (.cells #[(.func (.func 159) #[] #[.pointer (some ⟨w.heap.size + 1, 0, none⟩)]), (.func (.func 160) #[] #[.pointer (some ⟨w.heap.size + 1, 0, none⟩)]), (.func (.func 161) #[] #[.pointer (some ⟨w.heap.size + 1 + 1, 0, none⟩), .pointer (some ⟨w.heap.size, 0, none⟩)])] 203)
  simpa only [World.size_alloc] using this
 have HW := Lib.hid hW; clear hW
 have HB0 := Lib.hid hb0; clear hb0
 have HC1 := Lib.hid hc1; clear hc1
 have HC2 := Lib.hid hc2; clear hc2
 have HC3 := Lib.hid hc3; clear hc3
 have HC0 := Lib.hid hc0; clear hc0
 by_cases hml : (lim : Int) < (L.length : Int)
 ·go_enter Tryz.func116, Tryz.ntmps116
  go_upto_region 2 with fail
  rw [HW.out]
  clear HW
  generalize hX : w.heap.size = X at *
  generalize hX1 : X + 1 = X1 at *
  generalize hX2 : X1 + 1 = X2 at *
  generalize hX3 : X2 + 1 = X3 at *
  have HX := Lib.hid hX; clear hX
  have HX1 := Lib.hid hX1; clear hX1
  have HX2 := Lib.hid hX2; clear hX2
  have HX3 := Lib.hid hX3; clear hX3
  have HWL : Hid (X3 + 1 <= W.heap.size) := block_lt HC3.out
  have HBX : Hid (∀ wr, Below (X3 + 1) W wr -> Below w.heap.size w wr) := fun wr h => by
   have h1 := HX.out
   have h2 := HX1.out
   have h3 := HX2.out
   have h4 := HX3.out
   rw [h1]
   exact HB0.out.trans (h.mono (by omega))
  have HCX : Hid (∀ wr, Below (X3 + 1) W wr -> wr.cell? ⟨X, 0, none⟩ = some (.slice A L.length c) /\ wr.cell? ⟨X1, 0, none⟩ = some (.func (.func f) #[] fb) /\ wr.cell? ⟨X2, 0, none⟩ = some (.func (.func g) #[] gb) /\ wr.heap[X3]? = some (.cells #[(.func (.func 159) #[] #[.pointer (some ⟨X1, 0, none⟩)]), (.func (.func 160) #[] #[.pointer (some ⟨X1, 0, none⟩)]), (.func (.func 161) #[] #[.pointer (some ⟨X2, 0, none⟩), .pointer (some ⟨X, 0, none⟩)])] 203 (0, 0))) := fun wr h => by
   have h2 := HX1.out
   have h3 := HX2.out
   have h4 := HX3.out
   exact ⟨(h.cell (p := ⟨X, 0, none⟩) (by show X < _; omega)).trans HC0.out, (h.cell (p := ⟨X1, 0, none⟩) (by show X1 < _; omega)).trans HC1.out, (h.cell (p := ⟨X2, 0, none⟩) (by show X2 < _; omega)).trans HC2.out, (h.block X3 (by omega)).trans HC3.out⟩
  have ix0 : ∀ w : World, (Instr.index 203 (.agg #[(.func (.func 159) #[] #[.pointer (some ⟨X1, 0, none⟩)]), (.func (.func 160) #[] #[.pointer (some ⟨X1, 0, none⟩)]), (.func (.func 161) #[] #[.pointer (some ⟨X2, 0, none⟩), .pointer (some ⟨X, 0, none⟩)])]) (iV 0)).run Tryz.prog w = .ok (.func (.func 159) #[] #[.pointer (some ⟨X1, 0, none⟩)]) w := fun _ => by kernel_rfl
  have ix1 : ∀ w : World, (Instr.index 203 (.agg #[(.func (.func 159) #[] #[.pointer (some ⟨X1, 0, none⟩)]), (.func (.func 160) #[] #[.pointer (some ⟨X1, 0, none⟩)]), (.func (.func 161) #[] #[.pointer (some ⟨X2, 0, none⟩), .pointer (some ⟨X, 0, none⟩)])]) (iV 1)).run Tryz.prog w = .ok (.func (.func 160) #[] #[.pointer (some ⟨X1, 0, none⟩)]) w := fun _ => by kernel_rfl
  have ix2 : ∀ w : World, (Instr.index 203 (.agg #[(.func (.func 159) #[] #[.pointer (some ⟨X1, 0, none⟩)]), (.func (.func 160) #[] #[.pointer (some ⟨X1, 0, none⟩)]), (.func (.func 161) #[] #[.pointer (some ⟨X2, 0, none⟩), .pointer (some ⟨X, 0, none⟩)])]) (iV 2)).run Tryz.prog w = .ok (.func (.func 161) #[] #[.pointer (some ⟨X2, 0, none⟩), .pointer (some ⟨X, 0, none⟩)]) w := fun _ => by kernel_rfl
  have c0 := HC0.out
  go_wp2
  clear c0
  go_loopw [25, 12] (fun i v wr => ∃ (k m : Nat) (xs : List Value), k <= L.length /\ k <= lim /\ m <= k /\ i = iV k /\ Hid (wr.ownsRow (X3 + 1) 150 3 v m xs) /\ Hid (∀ x ∈ xs, x.oneCell' = true) /\ Hid (Below (X3 + 1) W wr) /\ Hid (m = 0 ↔ ∀ j < k, okAt nm gd L j)) (fun i _ _ => lim + 1 - (intOf i).toNat)
  case atStart => exact ⟨0, 0, [], by omega, by omega, by omega, rfl, World.ownsRow_nil _ _ _ _, (fun x hx => by cases hx), Below.refl _ _, ⟨fun _ j hj => by omega, fun _ => rfl⟩⟩
  case round =>
   obtain ⟨k, m, xs, hk1, hk2, hmk, rfl, HO, H1, HB, HQ⟩ := hrel
   obtain ⟨A2, c2, rfl⟩ := own_form HO.out
   have m0 : (0 : Int) <= (k : Int) := by omega
   by_cases hlt : k < lim /\ k < L.length
   ·obtain ⟨hlt1, hlt2⟩ := hlt
    have m1 : (k : Int) < (lim : Int) := by omega
    have m2 : (k : Int) < (L.length : Int) := by omega
    have HBr := Lib.hid (HBX.out _ HB.out)
    obtain ⟨r0, r1, r2, r3⟩ := HCX.out _ HB.out
    have R3 := Lib.hid r3
    clear r0 r2 r3
    have hx : L[k]? = some L[k] := List.getElem?_eq_getElem _
    generalize L[k] = x at hx
    have HXX := Lib.hid hx; clear hx
    go_wp2_with (refine wpList_load_row (by rfl) 203 (.tmp 11) (by rfl) X3 (by rfl) 203 #[(.func (.func 159) #[] #[.pointer (some ⟨X1, 0, none⟩)]), (.func (.func 160) #[] #[.pointer (some ⟨X1, 0, none⟩)]), (.func (.func 161) #[] #[.pointer (some ⟨X2, 0, none⟩), .pointer (some ⟨X, 0, none⟩)])] (0, 0) _ R3.out Tryz.underlying203 (by rfl) (by kernel_rfl) ?_)
    refine wp_loop_rounds 4 ?_
    rw [rounds_succ]
    go_wp2_with fail
    refine (rule1_off f fb nm L.length k X1 _ (HF.out.below HBr.out) (HK.out.below HBr.out) hlt2 (HN.out k hlt2) r1 EF.out).mono ?_
    rintro e w1 ⟨rfl, hb⟩
    have HC1' := Lib.hid hb; clear hb
    have HB1 : Hid (Below (X3 + 1) W w1) := HB.out.trans (HC1'.out.mono (Nat.le_trans HWL.out HB.out.size))
    have HO1 := Lib.hid (own_below HO.out HC1'.out)
    clear r1 HC1' HO HB HBr
    cases hn1 : nameB (nm k)
    case false =>
     have HBAD : Hid (m + 1 = 0 ↔ ∀ j < k + 1, okAt nm gd L j) := ok_bad (fun h => by rw [h.1] at hn1; cases hn1)
     clear hn1
     go_wp2_with (refine wpList_app (by rfl) (.tmp 37) (.tmp 42) 85 85 (by rfl) (X3 + 1) 150 i0 _ 3 24 Tryz.underlying85 hi0 hz0 hz1 hz2 (by rfl) _ m xs (by rfl) (HO1.out.alloc (.cells #[iV kind, iV k, iV 1] 150)) _ (by rfl) 1 [iV kind, iV k, iV 1] (src_k 3 Tryz.underlying85 (Rd.new _ [iV kind, iV k, iV 1] _) rfl (by simp [Value.oneCell'])) (by unfold maxLen; omega) (by omega) (by have := HWL.out; have := HB1.out.size; simp; omega) ?_; intro A4 c4 w4 ho hgr hbl; have HO4 := Lib.hid ho; have HB4 := Lib.hid (app_below (HB1.out.alloc (Nat.le_trans HWL.out HB1.out.size) _) HWL.out (HO1.out.alloc _) (Nat.le_refl _) hgr); clear ho hgr hbl)
     go_roundw
     case rel => exact ⟨k + 1, m + 1, xs ++ [iV kind, iV k, iV 1], by omega, by omega, by omega, by go_num, HO4.out, one3 H1.out, HB4.out, HBAD.out⟩
     case measure => simp [intOf]; omega
    case true =>
     have HN1 := Lib.hid hn1; clear hn1
     go_wp2
     rw [rounds_succ]
     obtain ⟨r0, r1, r2, -⟩ := HCX.out _ HB1.out
     have HBr := Lib.hid (HBX.out _ HB1.out)
     clear r0 r2
     go_wp2_with fail
     refine (rule2_off f fb nm L.length k X1 _ (HF.out.below HBr.out) hlt2 HL.out r1 EF.out).mono ?_
     rintro e w2 ⟨⟨y, rfl, hy⟩, hb⟩
     have HY := Lib.hid hy; clear hy
     have HC1' := Lib.hid hb; clear hb
     have HB2 : Hid (Below (X3 + 1) W w2) := HB1.out.trans (HC1'.out.mono (Nat.le_trans HWL.out HB1.out.size))
     have HO2 := Lib.hid (own_below HO1.out HC1'.out)
     clear r1 HC1' HO1 HB1 HBr
     by_cases hy0 : y = 0
     case neg =>
      have HBAD : Hid (m + 1 = 0 ↔ ∀ j < k + 1, okAt nm gd L j) := ok_bad (fun h => hy0 (HY.out.2 h.2.1))
      have y1 : (y != 0) = true := by simpa using hy0
      have y2 : (y == 0) = false := by simpa using hy0
      clear hy0
      go_wp2_with (refine wpList_app (by rfl) (.tmp 37) (.tmp 42) 85 85 (by rfl) (X3 + 1) 150 i0 _ 3 24 Tryz.underlying85 hi0 hz0 hz1 hz2 (by rfl) _ m xs (by rfl) (HO2.out.alloc (.cells #[iV kind, iV k, iV y] 150)) _ (by rfl) 1 [iV kind, iV k, iV y] (src_k 3 Tryz.underlying85 (Rd.new _ [iV kind, iV k, iV y] _) rfl (by simp [Value.oneCell'])) (by unfold maxLen; omega) (by omega) (by have := HWL.out; have := HB2.out.size; simp; omega) ?_; intro A4 c4 w4 ho hgr hbl; have HO4 := Lib.hid ho; have HB4 := Lib.hid (app_below (HB2.out.alloc (Nat.le_trans HWL.out HB2.out.size) _) HWL.out (HO2.out.alloc _) (Nat.le_refl _) hgr); clear ho hgr hbl)
      go_roundw
      case rel => exact ⟨k + 1, m + 1, xs ++ [iV kind, iV k, iV y], by omega, by omega, by omega, by go_num, HO4.out, one3 H1.out, HB4.out, HBAD.out⟩
      case measure => simp [intOf]; omega
     case pos =>
      have HN2 : Hid (freshB nm k = true) := HY.out.1 hy0
      subst hy0
      clear HY
      go_wp2
      rw [rounds_succ]
      obtain ⟨r0, r1, r2, -⟩ := HCX.out _ HB2.out
      have HBr := Lib.hid (HBX.out _ HB2.out)
      clear r1
      go_wp2_with fail
      refine (rule3_off g gb gd L A c k X2 X x _ (HG.out.below HBr.out) HL.out (HR.out.below HBr.out) HXX.out r2 r0 EG.out).mono ?_
      rintro e w3 ⟨rfl, hb⟩
      have HC1' := Lib.hid hb; clear hb
      have HB3 : Hid (Below (X3 + 1) W w3) := HB2.out.trans (HC1'.out.mono (Nat.le_trans HWL.out HB2.out.size))
      have HO3 := Lib.hid (own_below HO2.out HC1'.out)
      clear r0 r2 HC1' HO2 HB2 HBr
      cases hn3 : gd x
      case false =>
       have HBAD : Hid (m + 1 = 0 ↔ ∀ j < k + 1, okAt nm gd L j) := ok_bad (fun h => by rw [h.2.2 x HXX.out] at hn3; cases hn3)
       clear hn3
       go_wp2_with (refine wpList_app (by rfl) (.tmp 37) (.tmp 42) 85 85 (by rfl) (X3 + 1) 150 i0 _ 3 24 Tryz.underlying85 hi0 hz0 hz1 hz2 (by rfl) _ m xs (by rfl) (HO3.out.alloc (.cells #[iV kind, iV k, iV 1] 150)) _ (by rfl) 1 [iV kind, iV k, iV 1] (src_k 3 Tryz.underlying85 (Rd.new _ [iV kind, iV k, iV 1] _) rfl (by simp [Value.oneCell'])) (by unfold maxLen; omega) (by omega) (by have := HWL.out; have := HB3.out.size; simp; omega) ?_; intro A4 c4 w4 ho hgr hbl; have HO4 := Lib.hid ho; have HB4 := Lib.hid (app_below (HB3.out.alloc (Nat.le_trans HWL.out HB3.out.size) _) HWL.out (HO3.out.alloc _) (Nat.le_refl _) hgr); clear ho hgr hbl)
       go_roundw
       case rel => exact ⟨k + 1, m + 1, xs ++ [iV kind, iV k, iV 1], by omega, by omega, by omega, by go_num, HO4.out, one3 H1.out, HB4.out, HBAD.out⟩
       case measure => simp [intOf]; omega
      case true =>
       have HGOOD : Hid (m = 0 ↔ ∀ j < k + 1, okAt nm gd L j) := ok_snoc HQ.out ⟨HN1.out, HN2.out, fun z hz => by rw [HXX.out] at hz; cases hz; exact hn3⟩
       clear hn3 HQ
       go_wp2
       rw [rounds_succ]
       go_wp2
       go_roundw
       case rel => exact ⟨k + 1, m, xs, by omega, by omega, by omega, by go_num, HO3.out, H1.out, HB3.out, HGOOD.out⟩
       case measure => simp [intOf]; omega
   ·have m1 : ¬ (k : Int) < (lim : Int) := by omega
    obtain ⟨r0, r1, r2, -⟩ := HCX.out _ HB.out
    clear r1 r2
    go_wp2_with (refine wpList_app (by rfl) (.tmp 50) (.tmp 54) 85 85 (by rfl) (X3 + 1) 150 i0 _ 3 24 Tryz.underlying85 hi0 hz0 hz1 hz2 (by rfl) _ m xs (by rfl) (HO.out.alloc (.cells #[iV kind, iV lim, iV 2] 150)) _ (by rfl) 1 [iV kind, iV lim, iV 2] (src_k 3 Tryz.underlying85 (Rd.new _ [iV kind, iV lim, iV 2] _) rfl (by simp [Value.oneCell'])) (by unfold maxLen; omega) (by omega) (by have := HWL.out; have := HB.out.size; simp; omega) ?_; intro A4 c4 w4 ho hgr hbl; have HO4 := Lib.hid ho; have HB4 := Lib.hid (app_below (HB.out.alloc (Nat.le_trans HWL.out HB.out.size) _) HWL.out (HO.out.alloc _) (Nat.le_refl _) hgr); clear ho hgr hbl)
    go_ret
    exact ⟨A4, m + 1, c4, xs ++ [iV kind, iV lim, iV 2], rfl, own_base HO4.out (by have := HX.out; have := HX1.out; have := HX2.out; have := HX3.out; omega), one3 H1.out, ⟨fun h => by omega, fun h => by omega⟩, by omega, HBX.out _ HB4.out⟩
 ·go_enter Tryz.func116, Tryz.ntmps116
  go_upto_region 2 with fail
  rw [HW.out]
  clear HW
  generalize hX : w.heap.size = X at *
  generalize hX1 : X + 1 = X1 at *
  generalize hX2 : X1 + 1 = X2 at *
  generalize hX3 : X2 + 1 = X3 at *
  have HX := Lib.hid hX; clear hX
  have HX1 := Lib.hid hX1; clear hX1
  have HX2 := Lib.hid hX2; clear hX2
  have HX3 := Lib.hid hX3; clear hX3
  have HWL : Hid (X3 + 1 <= W.heap.size) := block_lt HC3.out
  have HBX : Hid (∀ wr, Below (X3 + 1) W wr -> Below w.heap.size w wr) := fun wr h => by
   have h1 := HX.out
   have h2 := HX1.out
   have h3 := HX2.out
   have h4 := HX3.out
   rw [h1]
   exact HB0.out.trans (h.mono (by omega))
  have HCX : Hid (∀ wr, Below (X3 + 1) W wr -> wr.cell? ⟨X, 0, none⟩ = some (.slice A L.length c) /\ wr.cell? ⟨X1, 0, none⟩ = some (.func (.func f) #[] fb) /\ wr.cell? ⟨X2, 0, none⟩ = some (.func (.func g) #[] gb) /\ wr.heap[X3]? = some (.cells #[(.func (.func 159) #[] #[.pointer (some ⟨X1, 0, none⟩)]), (.func (.func 160) #[] #[.pointer (some ⟨X1, 0, none⟩)]), (.func (.func 161) #[] #[.pointer (some ⟨X2, 0, none⟩), .pointer (some ⟨X, 0, none⟩)])] 203 (0, 0))) := fun wr h => by
   have h2 := HX1.out
   have h3 := HX2.out
   have h4 := HX3.out
   exact ⟨(h.cell (p := ⟨X, 0, none⟩) (by show X < _; omega)).trans HC0.out, (h.cell (p := ⟨X1, 0, none⟩) (by show X1 < _; omega)).trans HC1.out, (h.cell (p := ⟨X2, 0, none⟩) (by show X2 < _; omega)).trans HC2.out, (h.block X3 (by omega)).trans HC3.out⟩
  have ix0 : ∀ w : World, (Instr.index 203 (.agg #[(.func (.func 159) #[] #[.pointer (some ⟨X1, 0, none⟩)]), (.func (.func 160) #[] #[.pointer (some ⟨X1, 0, none⟩)]), (.func (.func 161) #[] #[.pointer (some ⟨X2, 0, none⟩), .pointer (some ⟨X, 0, none⟩)])]) (iV 0)).run Tryz.prog w = .ok (.func (.func 159) #[] #[.pointer (some ⟨X1, 0, none⟩)]) w := fun _ => by kernel_rfl
  have ix1 : ∀ w : World, (Instr.index 203 (.agg #[(.func (.func 159) #[] #[.pointer (some ⟨X1, 0, none⟩)]), (.func (.func 160) #[] #[.pointer (some ⟨X1, 0, none⟩)]), (.func (.func 161) #[] #[.pointer (some ⟨X2, 0, none⟩), .pointer (some ⟨X, 0, none⟩)])]) (iV 1)).run Tryz.prog w = .ok (.func (.func 160) #[] #[.pointer (some ⟨X1, 0, none⟩)]) w := fun _ => by kernel_rfl
  have ix2 : ∀ w : World, (Instr.index 203 (.agg #[(.func (.func 159) #[] #[.pointer (some ⟨X1, 0, none⟩)]), (.func (.func 160) #[] #[.pointer (some ⟨X1, 0, none⟩)]), (.func (.func 161) #[] #[.pointer (some ⟨X2, 0, none⟩), .pointer (some ⟨X, 0, none⟩)])]) (iV 2)).run Tryz.prog w = .ok (.func (.func 161) #[] #[.pointer (some ⟨X2, 0, none⟩), .pointer (some ⟨X, 0, none⟩)]) w := fun _ => by kernel_rfl
  have c0 := HC0.out
  go_wp2
  clear c0
  go_loopw [25, 12] (fun i v wr => ∃ (k m : Nat) (xs : List Value), k <= L.length /\ k <= lim /\ m <= k /\ i = iV k /\ Hid (wr.ownsRow (X3 + 1) 150 3 v m xs) /\ Hid (∀ x ∈ xs, x.oneCell' = true) /\ Hid (Below (X3 + 1) W wr) /\ Hid (m = 0 ↔ ∀ j < k, okAt nm gd L j)) (fun i _ _ => lim + 1 - (intOf i).toNat)
  case atStart => exact ⟨0, 0, [], by omega, by omega, by omega, rfl, World.ownsRow_nil _ _ _ _, (fun x hx => by cases hx), Below.refl _ _, ⟨fun _ j hj => by omega, fun _ => rfl⟩⟩
  case round =>
   obtain ⟨k, m, xs, hk1, hk2, hmk, rfl, HO, H1, HB, HQ⟩ := hrel
   obtain ⟨A2, c2, rfl⟩ := own_form HO.out
   have m0 : (0 : Int) <= (k : Int) := by omega
   by_cases hlt : k < lim /\ k < L.length
   ·obtain ⟨hlt1, hlt2⟩ := hlt
    have m1 : (k : Int) < (lim : Int) := by omega
    have m2 : (k : Int) < (L.length : Int) := by omega
    have HBr := Lib.hid (HBX.out _ HB.out)
    obtain ⟨r0, r1, r2, r3⟩ := HCX.out _ HB.out
    have R3 := Lib.hid r3
    clear r0 r2 r3
    have hx : L[k]? = some L[k] := List.getElem?_eq_getElem _
    generalize L[k] = x at hx
    have HXX := Lib.hid hx; clear hx
    go_wp2_with (refine wpList_load_row (by rfl) 203 (.tmp 11) (by rfl) X3 (by rfl) 203 #[(.func (.func 159) #[] #[.pointer (some ⟨X1, 0, none⟩)]), (.func (.func 160) #[] #[.pointer (some ⟨X1, 0, none⟩)]), (.func (.func 161) #[] #[.pointer (some ⟨X2, 0, none⟩), .pointer (some ⟨X, 0, none⟩)])] (0, 0) _ R3.out Tryz.underlying203 (by rfl) (by kernel_rfl) ?_)
    refine wp_loop_rounds 4 ?_
    rw [rounds_succ]
    go_wp2_with fail
    refine (rule1_off f fb nm L.length k X1 _ (HF.out.below HBr.out) (HK.out.below HBr.out) hlt2 (HN.out k hlt2) r1 EF.out).mono ?_
    rintro e w1 ⟨rfl, hb⟩
    have HC1' := Lib.hid hb; clear hb
    have HB1 : Hid (Below (X3 + 1) W w1) := HB.out.trans (HC1'.out.mono (Nat.le_trans HWL.out HB.out.size))
    have HO1 := Lib.hid (own_below HO.out HC1'.out)
    clear r1 HC1' HO HB HBr
    cases hn1 : nameB (nm k)
    case false =>
     have HBAD : Hid (m + 1 = 0 ↔ ∀ j < k + 1, okAt nm gd L j) := ok_bad (fun h => by rw [h.1] at hn1; cases hn1)
     clear hn1
     go_wp2_with (refine wpList_app (by rfl) (.tmp 37) (.tmp 42) 85 85 (by rfl) (X3 + 1) 150 i0 _ 3 24 Tryz.underlying85 hi0 hz0 hz1 hz2 (by rfl) _ m xs (by rfl) (HO1.out.alloc (.cells #[iV kind, iV k, iV 1] 150)) _ (by rfl) 1 [iV kind, iV k, iV 1] (src_k 3 Tryz.underlying85 (Rd.new _ [iV kind, iV k, iV 1] _) rfl (by simp [Value.oneCell'])) (by unfold maxLen; omega) (by omega) (by have := HWL.out; have := HB1.out.size; simp; omega) ?_; intro A4 c4 w4 ho hgr hbl; have HO4 := Lib.hid ho; have HB4 := Lib.hid (app_below (HB1.out.alloc (Nat.le_trans HWL.out HB1.out.size) _) HWL.out (HO1.out.alloc _) (Nat.le_refl _) hgr); clear ho hgr hbl)
     go_roundw
     case rel => exact ⟨k + 1, m + 1, xs ++ [iV kind, iV k, iV 1], by omega, by omega, by omega, by go_num, HO4.out, one3 H1.out, HB4.out, HBAD.out⟩
     case measure => simp [intOf]; omega
    case true =>
     have HN1 := Lib.hid hn1; clear hn1
     go_wp2
     rw [rounds_succ]
     obtain ⟨r0, r1, r2, -⟩ := HCX.out _ HB1.out
     have HBr := Lib.hid (HBX.out _ HB1.out)
     clear r0 r2
     go_wp2_with fail
     refine (rule2_off f fb nm L.length k X1 _ (HF.out.below HBr.out) hlt2 HL.out r1 EF.out).mono ?_
     rintro e w2 ⟨⟨y, rfl, hy⟩, hb⟩
     have HY := Lib.hid hy; clear hy
     have HC1' := Lib.hid hb; clear hb
     have HB2 : Hid (Below (X3 + 1) W w2) := HB1.out.trans (HC1'.out.mono (Nat.le_trans HWL.out HB1.out.size))
     have HO2 := Lib.hid (own_below HO1.out HC1'.out)
     clear r1 HC1' HO1 HB1 HBr
     by_cases hy0 : y = 0
     case neg =>
      have HBAD : Hid (m + 1 = 0 ↔ ∀ j < k + 1, okAt nm gd L j) := ok_bad (fun h => hy0 (HY.out.2 h.2.1))
      have y1 : (y != 0) = true := by simpa using hy0
      have y2 : (y == 0) = false := by simpa using hy0
      clear hy0
      go_wp2_with (refine wpList_app (by rfl) (.tmp 37) (.tmp 42) 85 85 (by rfl) (X3 + 1) 150 i0 _ 3 24 Tryz.underlying85 hi0 hz0 hz1 hz2 (by rfl) _ m xs (by rfl) (HO2.out.alloc (.cells #[iV kind, iV k, iV y] 150)) _ (by rfl) 1 [iV kind, iV k, iV y] (src_k 3 Tryz.underlying85 (Rd.new _ [iV kind, iV k, iV y] _) rfl (by simp [Value.oneCell'])) (by unfold maxLen; omega) (by omega) (by have := HWL.out; have := HB2.out.size; simp; omega) ?_; intro A4 c4 w4 ho hgr hbl; have HO4 := Lib.hid ho; have HB4 := Lib.hid (app_below (HB2.out.alloc (Nat.le_trans HWL.out HB2.out.size) _) HWL.out (HO2.out.alloc _) (Nat.le_refl _) hgr); clear ho hgr hbl)
      go_roundw
      case rel => exact ⟨k + 1, m + 1, xs ++ [iV kind, iV k, iV y], by omega, by omega, by omega, by go_num, HO4.out, one3 H1.out, HB4.out, HBAD.out⟩
      case measure => simp [intOf]; omega
     case pos =>
      have HN2 : Hid (freshB nm k = true) := HY.out.1 hy0
      subst hy0
      clear HY
      go_wp2
      rw [rounds_succ]
      obtain ⟨r0, r1, r2, -⟩ := HCX.out _ HB2.out
      have HBr := Lib.hid (HBX.out _ HB2.out)
      clear r1
      go_wp2_with fail
      refine (rule3_off g gb gd L A c k X2 X x _ (HG.out.below HBr.out) HL.out (HR.out.below HBr.out) HXX.out r2 r0 EG.out).mono ?_
      rintro e w3 ⟨rfl, hb⟩
      have HC1' := Lib.hid hb; clear hb
      have HB3 : Hid (Below (X3 + 1) W w3) := HB2.out.trans (HC1'.out.mono (Nat.le_trans HWL.out HB2.out.size))
      have HO3 := Lib.hid (own_below HO2.out HC1'.out)
      clear r0 r2 HC1' HO2 HB2 HBr
      cases hn3 : gd x
      case false =>
       have HBAD : Hid (m + 1 = 0 ↔ ∀ j < k + 1, okAt nm gd L j) := ok_bad (fun h => by rw [h.2.2 x HXX.out] at hn3; cases hn3)
       clear hn3
       go_wp2_with (refine wpList_app (by rfl) (.tmp 37) (.tmp 42) 85 85 (by rfl) (X3 + 1) 150 i0 _ 3 24 Tryz.underlying85 hi0 hz0 hz1 hz2 (by rfl) _ m xs (by rfl) (HO3.out.alloc (.cells #[iV kind, iV k, iV 1] 150)) _ (by rfl) 1 [iV kind, iV k, iV 1] (src_k 3 Tryz.underlying85 (Rd.new _ [iV kind, iV k, iV 1] _) rfl (by simp [Value.oneCell'])) (by unfold maxLen; omega) (by omega) (by have := HWL.out; have := HB3.out.size; simp; omega) ?_; intro A4 c4 w4 ho hgr hbl; have HO4 := Lib.hid ho; have HB4 := Lib.hid (app_below (HB3.out.alloc (Nat.le_trans HWL.out HB3.out.size) _) HWL.out (HO3.out.alloc _) (Nat.le_refl _) hgr); clear ho hgr hbl)
       go_roundw
       case rel => exact ⟨k + 1, m + 1, xs ++ [iV kind, iV k, iV 1], by omega, by omega, by omega, by go_num, HO4.out, one3 H1.out, HB4.out, HBAD.out⟩
       case measure => simp [intOf]; omega
      case true =>
       have HGOOD : Hid (m = 0 ↔ ∀ j < k + 1, okAt nm gd L j) := ok_snoc HQ.out ⟨HN1.out, HN2.out, fun z hz => by rw [HXX.out] at hz; cases hz; exact hn3⟩
       clear hn3 HQ
       go_wp2
       rw [rounds_succ]
       go_wp2
       go_roundw
       case rel => exact ⟨k + 1, m, xs, by omega, by omega, by omega, by go_num, HO3.out, H1.out, HB3.out, HGOOD.out⟩
       case measure => simp [intOf]; omega
   ·have m1 : ¬ (k : Int) < (L.length : Int) := by omega
    obtain ⟨r0, r1, r2, -⟩ := HCX.out _ HB.out
    clear r1 r2
    go_wp2
    go_ret
    exact ⟨A2, m, c2, xs, rfl, own_base HO.out (by have := HX.out; have := HX1.out; have := HX2.out; have := HX3.out; omega), H1.out, HQ.out.trans ⟨fun h => ⟨by omega, fun i hi => h i (by omega)⟩, fun h j hj => h.2 j (by omega)⟩, by omega, HBX.out _ HB.out⟩
end Go.Proofs.YtpeaiphdkgifaaaGreatDoor
