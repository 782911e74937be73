/-
  The walk over survey.check: Class. The walk over survey.relaxed: the distances between the offices.
-/
import Derived.Test.YtjpabeoflhkfkaaGreatDoorPf
import Derived.Test.YtjpabeoflhkfkaaGreatDoorPaa
import Derived.Test.YtjpabeoflhkfkaaGreatDoorPd
import Derived.Laws.Rows
import Derived.Laws.Tables
import Derived.IntWalk
namespace Go.Proofs.YtjpabeoflhkfkaaGreatDoor
open Go.RowKit

set_option maxHeartbeats 8000000 in
set_option maxRecDepth 100000 in
theorem check_cls (kind : Int) (lim : Nat) (f g : FuncId) (fb gb : Array Value) (nm : Nat → List UInt8) (gd : Cls → Bool) (L : List (Cls)) (A : Option Addr) (c : Nat) (w : World)
    (hf : NameF f fb nm L.length w) (hg : GoodF g gb (fun x : Cls => clsV x) L gd w) (hk : KW w) (hl : L.length ≤ maxLen) (hlim : lim ≤ 40) (hnm : ∀ i < L.length, (nm i).length ≤ maxLen) (hR : Rd w A (L.flatMap encCls))
    (ef : ∀ args w, (callFunc f args).run Tryz.prog w = .ok (.enter f args) w) (eg : ∀ args w, (callFunc g args).run Tryz.prog w = .ok (.enter g args) w) :
    Calls Tryz.prog 118 #[iV kind, iV lim, .slice A L.length c, .func (.func f) #[] fb, .func (.func g) #[] gb] w (ChkR w (L.length ≤ lim ∧ ∀ i < L.length, okAt nm gd L i)) := by
  obtain ⟨i0, hi0, hz0, hz1, hz2⟩ := info_parts ftInfo
  have HF := Lib.hid hf; clear hf
  have HG := Lib.hid hg; clear hg
  have HK := Lib.hid hk; clear hk
  have HN := Lib.hid hnm; clear hnm
  have HR := Lib.hid hR; clear hR
  have HL := Lib.hid hl
  unfold maxLen at hl
  have EF := Lib.hid ef; clear ef
  have EG := Lib.hid eg; clear eg
  obtain ⟨W, hW⟩ : ∃ W, (((w.alloc (.cells #[.slice A L.length c] 34)).alloc (.cells #[.func (.func f) #[] fb] 128)).alloc (.cells #[.func (.func g) #[] gb] 165)).alloc (.cells #[(.func (.func 157) #[] #[.pointer (some ⟨w.heap.size + 1, 0, none⟩)]), (.func (.func 158) #[] #[.pointer (some ⟨w.heap.size + 1, 0, none⟩)]), (.func (.func 159) #[] #[.pointer (some ⟨w.heap.size + 1 + 1, 0, none⟩), .pointer (some ⟨w.heap.size, 0, none⟩)])] 177) = W := ⟨_, rfl⟩
  have hb0 : Below w.heap.size w W := by
    rw [← hW]
    exact ((((Below.refl _ w).alloc (Nat.le_refl _) _).alloc (by simp) _).alloc (by simp; omega) _).alloc (by simp; omega) _
  have hc0 : W.cell? ⟨w.heap.size, 0, none⟩ = some (.slice A L.length c) := by
    rw [← hW]
    exact cell_of_row _ _ 0 _ _ _ ((Below.heap_alloc _ _ _ (by simp; omega)).trans ((Below.heap_alloc _ _ _ (by simp; omega)).trans ((Below.heap_alloc _ _ _ (by simp)).trans (heap_alloc_new _ _))))
  have hc1 : W.cell? ⟨w.heap.size + 1, 0, none⟩ = some (.func (.func f) #[] fb) := by
    rw [← hW]
    have := heap_alloc_new (w.alloc (.cells #[.slice A L.length c] 34)) (.cells #[.func (.func f) #[] fb] 128)
    rw [World.size_alloc] at this
    exact cell_of_row _ _ 0 _ _ _ ((Below.heap_alloc _ _ _ (by simp)).trans ((Below.heap_alloc _ _ _ (by simp)).trans this))
  have hc2 : W.cell? ⟨w.heap.size + 1 + 1, 0, none⟩ = some (.func (.func g) #[] gb) := by
    rw [← hW]
    have := heap_alloc_new ((w.alloc (.cells #[.slice A L.length c] 34)).alloc (.cells #[.func (.func f) #[] fb] 128)) (.cells #[.func (.func g) #[] gb] 165)
    rw [World.size_alloc, World.size_alloc] at this
    exact cell_of_row _ _ 0 _ _ _ ((Below.heap_alloc _ _ _ (by simp)).trans this)
  have hc3 : W.heap[w.heap.size + 1 + 1 + 1]? = some (.cells #[(.func (.func 157) #[] #[.pointer (some ⟨w.heap.size + 1, 0, none⟩)]), (.func (.func 158) #[] #[.pointer (some ⟨w.heap.size + 1, 0, none⟩)]), (.func (.func 159) #[] #[.pointer (some ⟨w.heap.size + 1 + 1, 0, none⟩), .pointer (some ⟨w.heap.size, 0, none⟩)])] 177 (0, 0)) := by
    rw [← hW]
    have := heap_alloc_new (((w.alloc (.cells #[.slice A L.length c] 34)).alloc (.cells #[.func (.func f) #[] fb] 128)).alloc (.cells #[.func (.func g) #[] gb] 165)) (.cells #[(.func (.func 157) #[] #[.pointer (some ⟨w.heap.size + 1, 0, none⟩)]), (.func (.func 158) #[] #[.pointer (some ⟨w.heap.size + 1, 0, none⟩)]), (.func (.func 159) #[] #[.pointer (some ⟨w.heap.size + 1 + 1, 0, none⟩), .pointer (some ⟨w.heap.size, 0, none⟩)])] 177)
    simpa only [World.size_alloc] using this
  have HW := Lib.hid hW; clear hW
  have HB0 := Lib.hid hb0; clear hb0
  have HC1 := Lib.hid hc1; clear hc1
  have HC2 := Lib.hid hc2; clear hc2
  have HC3 := Lib.hid hc3; clear hc3
  have HC0 := Lib.hid hc0; clear hc0
  by_cases hml : (lim : Int) < (L.length : Int)
  · go_enter Tryz.func118, Tryz.ntmps118
    go_upto_region 2 with fail
    rw [HW.out]
    clear HW
    generalize hX : w.heap.size = X at *
    generalize hX1 : X + 1 = X1 at *
    generalize hX2 : X1 + 1 = X2 at *
    generalize hX3 : X2 + 1 = X3 at *
    have HX := Lib.hid hX; clear hX
    have HX1 := Lib.hid hX1; clear hX1
    have HX2 := Lib.hid hX2; clear hX2
    have HX3 := Lib.hid hX3; clear hX3
    have HWL : Hid (X3 + 1 ≤ W.heap.size) := block_lt HC3.out
    have HBX : Hid (∀ wr, Below (X3 + 1) W wr → Below w.heap.size w wr) := fun wr h => by
      have h1 := HX.out
      have h2 := HX1.out
      have h3 := HX2.out
      have h4 := HX3.out
      rw [h1]
      exact HB0.out.trans (h.mono (by omega))
    have HCX : Hid (∀ wr, Below (X3 + 1) W wr → wr.cell? ⟨X, 0, none⟩ = some (.slice A L.length c) ∧ wr.cell? ⟨X1, 0, none⟩ = some (.func (.func f) #[] fb) ∧ wr.cell? ⟨X2, 0, none⟩ = some (.func (.func g) #[] gb) ∧ wr.heap[X3]? = some (.cells #[(.func (.func 157) #[] #[.pointer (some ⟨X1, 0, none⟩)]), (.func (.func 158) #[] #[.pointer (some ⟨X1, 0, none⟩)]), (.func (.func 159) #[] #[.pointer (some ⟨X2, 0, none⟩), .pointer (some ⟨X, 0, none⟩)])] 177 (0, 0))) := fun wr h => by
      have h2 := HX1.out
      have h3 := HX2.out
      have h4 := HX3.out
      exact ⟨(h.cell (p := ⟨X, 0, none⟩) (by show X < _; omega)).trans HC0.out, (h.cell (p := ⟨X1, 0, none⟩) (by show X1 < _; omega)).trans HC1.out, (h.cell (p := ⟨X2, 0, none⟩) (by show X2 < _; omega)).trans HC2.out, (h.block X3 (by omega)).trans HC3.out⟩
    have ix0 : ∀ w : World, (Instr.index 177 (.agg #[(.func (.func 157) #[] #[.pointer (some ⟨X1, 0, none⟩)]), (.func (.func 158) #[] #[.pointer (some ⟨X1, 0, none⟩)]), (.func (.func 159) #[] #[.pointer (some ⟨X2, 0, none⟩), .pointer (some ⟨X, 0, none⟩)])]) (iV 0)).run Tryz.prog w = .ok (.func (.func 157) #[] #[.pointer (some ⟨X1, 0, none⟩)]) w := fun _ => by kernel_rfl
    have ix1 : ∀ w : World, (Instr.index 177 (.agg #[(.func (.func 157) #[] #[.pointer (some ⟨X1, 0, none⟩)]), (.func (.func 158) #[] #[.pointer (some ⟨X1, 0, none⟩)]), (.func (.func 159) #[] #[.pointer (some ⟨X2, 0, none⟩), .pointer (some ⟨X, 0, none⟩)])]) (iV 1)).run Tryz.prog w = .ok (.func (.func 158) #[] #[.pointer (some ⟨X1, 0, none⟩)]) w := fun _ => by kernel_rfl
    have ix2 : ∀ w : World, (Instr.index 177 (.agg #[(.func (.func 157) #[] #[.pointer (some ⟨X1, 0, none⟩)]), (.func (.func 158) #[] #[.pointer (some ⟨X1, 0, none⟩)]), (.func (.func 159) #[] #[.pointer (some ⟨X2, 0, none⟩), .pointer (some ⟨X, 0, none⟩)])]) (iV 2)).run Tryz.prog w = .ok (.func (.func 159) #[] #[.pointer (some ⟨X2, 0, none⟩), .pointer (some ⟨X, 0, none⟩)]) w := fun _ => by kernel_rfl
    have c0 := HC0.out
    go_wp2
    clear c0
    go_loopw [25, 12] (fun i v wr => ∃ (k m : Nat) (xs : List Value), k ≤ L.length ∧ k ≤ lim ∧ m ≤ k ∧ i = iV k ∧ Hid (wr.ownsRow (X3 + 1) 138 3 v m xs) ∧ Hid (∀ x ∈ xs, x.oneCell' = true) ∧ Hid (Below (X3 + 1) W wr) ∧ Hid (m = 0 ↔ ∀ j < k, okAt nm gd L j)) (fun i _ _ => lim + 1 - (intOf i).toNat)
    case atStart => exact ⟨0, 0, [], by omega, by omega, by omega, rfl, World.ownsRow_nil _ _ _ _, (fun x hx => by cases hx), Below.refl _ _, ⟨fun _ j hj => by omega, fun _ => rfl⟩⟩
    case round =>
      obtain ⟨k, m, xs, hk1, hk2, hmk, rfl, HO, H1, HB, HQ⟩ := hrel
      obtain ⟨A2, c2, rfl⟩ := own_form HO.out
      have m0 : (0 : Int) ≤ (k : Int) := by omega
      by_cases hlt : k < lim ∧ k < L.length
      · obtain ⟨hlt1, hlt2⟩ := hlt
        have m1 : (k : Int) < (lim : Int) := by omega
        have m2 : (k : Int) < (L.length : Int) := by omega
        have HBr := Lib.hid (HBX.out _ HB.out)
        obtain ⟨r0, r1, r2, r3⟩ := HCX.out _ HB.out
        have R3 := Lib.hid r3
        clear r0 r2 r3
        have hx : L[k]? = some L[k] := List.getElem?_eq_getElem _
        generalize L[k] = x at hx
        have HXX := Lib.hid hx; clear hx
        go_wp2_with (refine wpList_load_row (by rfl) 177 (.tmp 11) (by rfl) X3 (by rfl) 177 #[(.func (.func 157) #[] #[.pointer (some ⟨X1, 0, none⟩)]), (.func (.func 158) #[] #[.pointer (some ⟨X1, 0, none⟩)]), (.func (.func 159) #[] #[.pointer (some ⟨X2, 0, none⟩), .pointer (some ⟨X, 0, none⟩)])] (0, 0) _ R3.out Tryz.underlying177 (by rfl) (by kernel_rfl) ?_)
        refine wp_loop_rounds 4 ?_
        rw [rounds_succ]
        go_wp2_with fail
        refine (rule1_cls f fb nm L.length k X1 _ (HF.out.below HBr.out) (HK.out.below HBr.out) hlt2 (HN.out k hlt2) r1 EF.out).mono ?_
        rintro e w1 ⟨rfl, hb⟩
        have HC1' := Lib.hid hb; clear hb
        have HB1 : Hid (Below (X3 + 1) W w1) := HB.out.trans (HC1'.out.mono (Nat.le_trans HWL.out HB.out.size))
        have HO1 := Lib.hid (own_below HO.out HC1'.out)
        clear r1 HC1' HO HB HBr
        cases hn1 : nameB (nm k)
        case false =>
          have HBAD : Hid (m + 1 = 0 ↔ ∀ j < k + 1, okAt nm gd L j) := ok_bad (fun h => by rw [h.1] at hn1; cases hn1)
          clear hn1
          go_wp2_with (refine wpList_app (by rfl) (.tmp 37) (.tmp 42) 80 80 (by rfl) (X3 + 1) 138 i0 _ 3 24 Tryz.underlying80 hi0 hz0 hz1 hz2 (by rfl) _ m xs (by rfl) (HO1.out.alloc (.cells #[iV kind, iV k, iV 1] 138)) _ (by rfl) 1 [iV kind, iV k, iV 1] (src_k 3 Tryz.underlying80 (Rd.new _ [iV kind, iV k, iV 1] _) rfl (by simp [Value.oneCell'])) (by unfold maxLen; omega) (by omega) (by have := HWL.out; have := HB1.out.size; simp; omega) ?_; intro A4 c4 w4 ho hgr hbl; have HO4 := Lib.hid ho; have HB4 := Lib.hid (app_below (HB1.out.alloc (Nat.le_trans HWL.out HB1.out.size) _) HWL.out (HO1.out.alloc _) (Nat.le_refl _) hgr); clear ho hgr hbl)
          go_roundw
          case rel => exact ⟨k + 1, m + 1, xs ++ [iV kind, iV k, iV 1], by omega, by omega, by omega, by go_num, HO4.out, one3 H1.out, HB4.out, HBAD.out⟩
          case measure => simp [intOf]; omega
        case true =>
          have HN1 := Lib.hid hn1; clear hn1
          go_wp2
          rw [rounds_succ]
          obtain ⟨r0, r1, r2, -⟩ := HCX.out _ HB1.out
          have HBr := Lib.hid (HBX.out _ HB1.out)
          clear r0 r2
          go_wp2_with fail
          refine (rule2_cls f fb nm L.length k X1 _ (HF.out.below HBr.out) hlt2 HL.out r1 EF.out).mono ?_
          rintro e w2 ⟨⟨y, rfl, hy⟩, hb⟩
          have HY := Lib.hid hy; clear hy
          have HC1' := Lib.hid hb; clear hb
          have HB2 : Hid (Below (X3 + 1) W w2) := HB1.out.trans (HC1'.out.mono (Nat.le_trans HWL.out HB1.out.size))
          have HO2 := Lib.hid (own_below HO1.out HC1'.out)
          clear r1 HC1' HO1 HB1 HBr
          by_cases hy0 : y = 0
          case neg =>
            have HBAD : Hid (m + 1 = 0 ↔ ∀ j < k + 1, okAt nm gd L j) := ok_bad (fun h => hy0 (HY.out.2 h.2.1))
            have y1 : (y != 0) = true := by simpa using hy0
            have y2 : (y == 0) = false := by simpa using hy0
            clear hy0
            go_wp2_with (refine wpList_app (by rfl) (.tmp 37) (.tmp 42) 80 80 (by rfl) (X3 + 1) 138 i0 _ 3 24 Tryz.underlying80 hi0 hz0 hz1 hz2 (by rfl) _ m xs (by rfl) (HO2.out.alloc (.cells #[iV kind, iV k, iV y] 138)) _ (by rfl) 1 [iV kind, iV k, iV y] (src_k 3 Tryz.underlying80 (Rd.new _ [iV kind, iV k, iV y] _) rfl (by simp [Value.oneCell'])) (by unfold maxLen; omega) (by omega) (by have := HWL.out; have := HB2.out.size; simp; omega) ?_; intro A4 c4 w4 ho hgr hbl; have HO4 := Lib.hid ho; have HB4 := Lib.hid (app_below (HB2.out.alloc (Nat.le_trans HWL.out HB2.out.size) _) HWL.out (HO2.out.alloc _) (Nat.le_refl _) hgr); clear ho hgr hbl)
            go_roundw
            case rel => exact ⟨k + 1, m + 1, xs ++ [iV kind, iV k, iV y], by omega, by omega, by omega, by go_num, HO4.out, one3 H1.out, HB4.out, HBAD.out⟩
            case measure => simp [intOf]; omega
          case pos =>
            have HN2 : Hid (freshB nm k = true) := HY.out.1 hy0
            subst hy0
            clear HY
            go_wp2
            rw [rounds_succ]
            obtain ⟨r0, r1, r2, -⟩ := HCX.out _ HB2.out
            have HBr := Lib.hid (HBX.out _ HB2.out)
            clear r1
            go_wp2_with fail
            refine (rule3_cls g gb gd L A c k X2 X x _ (HG.out.below HBr.out) HL.out (HR.out.below HBr.out) HXX.out r2 r0 EG.out).mono ?_
            rintro e w3 ⟨rfl, hb⟩
            have HC1' := Lib.hid hb; clear hb
            have HB3 : Hid (Below (X3 + 1) W w3) := HB2.out.trans (HC1'.out.mono (Nat.le_trans HWL.out HB2.out.size))
            have HO3 := Lib.hid (own_below HO2.out HC1'.out)
            clear r0 r2 HC1' HO2 HB2 HBr
            cases hn3 : gd x
            case false =>
              have HBAD : Hid (m + 1 = 0 ↔ ∀ j < k + 1, okAt nm gd L j) := ok_bad (fun h => by rw [h.2.2 x HXX.out] at hn3; cases hn3)
              clear hn3
              go_wp2_with (refine wpList_app (by rfl) (.tmp 37) (.tmp 42) 80 80 (by rfl) (X3 + 1) 138 i0 _ 3 24 Tryz.underlying80 hi0 hz0 hz1 hz2 (by rfl) _ m xs (by rfl) (HO3.out.alloc (.cells #[iV kind, iV k, iV 1] 138)) _ (by rfl) 1 [iV kind, iV k, iV 1] (src_k 3 Tryz.underlying80 (Rd.new _ [iV kind, iV k, iV 1] _) rfl (by simp [Value.oneCell'])) (by unfold maxLen; omega) (by omega) (by have := HWL.out; have := HB3.out.size; simp; omega) ?_; intro A4 c4 w4 ho hgr hbl; have HO4 := Lib.hid ho; have HB4 := Lib.hid (app_below (HB3.out.alloc (Nat.le_trans HWL.out HB3.out.size) _) HWL.out (HO3.out.alloc _) (Nat.le_refl _) hgr); clear ho hgr hbl)
              go_roundw
              case rel => exact ⟨k + 1, m + 1, xs ++ [iV kind, iV k, iV 1], by omega, by omega, by omega, by go_num, HO4.out, one3 H1.out, HB4.out, HBAD.out⟩
              case measure => simp [intOf]; omega
            case true =>
              have HGOOD : Hid (m = 0 ↔ ∀ j < k + 1, okAt nm gd L j) := ok_snoc HQ.out ⟨HN1.out, HN2.out, fun z hz => by rw [HXX.out] at hz; cases hz; exact hn3⟩
              clear hn3 HQ
              go_wp2
              rw [rounds_succ]
              go_wp2
              go_roundw
              case rel => exact ⟨k + 1, m, xs, by omega, by omega, by omega, by go_num, HO3.out, H1.out, HB3.out, HGOOD.out⟩
              case measure => simp [intOf]; omega
      · have m1 : ¬ (k : Int) < (lim : Int) := by omega
        obtain ⟨r0, r1, r2, -⟩ := HCX.out _ HB.out
        clear r1 r2
        go_wp2_with (refine wpList_app (by rfl) (.tmp 50) (.tmp 54) 80 80 (by rfl) (X3 + 1) 138 i0 _ 3 24 Tryz.underlying80 hi0 hz0 hz1 hz2 (by rfl) _ m xs (by rfl) (HO.out.alloc (.cells #[iV kind, iV lim, iV 2] 138)) _ (by rfl) 1 [iV kind, iV lim, iV 2] (src_k 3 Tryz.underlying80 (Rd.new _ [iV kind, iV lim, iV 2] _) rfl (by simp [Value.oneCell'])) (by unfold maxLen; omega) (by omega) (by have := HWL.out; have := HB.out.size; simp; omega) ?_; intro A4 c4 w4 ho hgr hbl; have HO4 := Lib.hid ho; have HB4 := Lib.hid (app_below (HB.out.alloc (Nat.le_trans HWL.out HB.out.size) _) HWL.out (HO.out.alloc _) (Nat.le_refl _) hgr); clear ho hgr hbl)
        go_ret
        exact ⟨A4, m + 1, c4, xs ++ [iV kind, iV lim, iV 2], rfl, own_base HO4.out (by have := HX.out; have := HX1.out; have := HX2.out; have := HX3.out; omega), one3 H1.out, ⟨fun h => by omega, fun h => by omega⟩, by omega, HBX.out _ HB4.out⟩

  · go_enter Tryz.func118, Tryz.ntmps118
    go_upto_region 2 with fail
    rw [HW.out]
    clear HW
    generalize hX : w.heap.size = X at *
    generalize hX1 : X + 1 = X1 at *
    generalize hX2 : X1 + 1 = X2 at *
    generalize hX3 : X2 + 1 = X3 at *
    have HX := Lib.hid hX; clear hX
    have HX1 := Lib.hid hX1; clear hX1
    have HX2 := Lib.hid hX2; clear hX2
    have HX3 := Lib.hid hX3; clear hX3
    have HWL : Hid (X3 + 1 ≤ W.heap.size) := block_lt HC3.out
    have HBX : Hid (∀ wr, Below (X3 + 1) W wr → Below w.heap.size w wr) := fun wr h => by
      have h1 := HX.out
      have h2 := HX1.out
      have h3 := HX2.out
      have h4 := HX3.out
      rw [h1]
      exact HB0.out.trans (h.mono (by omega))
    have HCX : Hid (∀ wr, Below (X3 + 1) W wr → wr.cell? ⟨X, 0, none⟩ = some (.slice A L.length c) ∧ wr.cell? ⟨X1, 0, none⟩ = some (.func (.func f) #[] fb) ∧ wr.cell? ⟨X2, 0, none⟩ = some (.func (.func g) #[] gb) ∧ wr.heap[X3]? = some (.cells #[(.func (.func 157) #[] #[.pointer (some ⟨X1, 0, none⟩)]), (.func (.func 158) #[] #[.pointer (some ⟨X1, 0, none⟩)]), (.func (.func 159) #[] #[.pointer (some ⟨X2, 0, none⟩), .pointer (some ⟨X, 0, none⟩)])] 177 (0, 0))) := fun wr h => by
      have h2 := HX1.out
      have h3 := HX2.out
      have h4 := HX3.out
      exact ⟨(h.cell (p := ⟨X, 0, none⟩) (by show X < _; omega)).trans HC0.out, (h.cell (p := ⟨X1, 0, none⟩) (by show X1 < _; omega)).trans HC1.out, (h.cell (p := ⟨X2, 0, none⟩) (by show X2 < _; omega)).trans HC2.out, (h.block X3 (by omega)).trans HC3.out⟩
    have ix0 : ∀ w : World, (Instr.index 177 (.agg #[(.func (.func 157) #[] #[.pointer (some ⟨X1, 0, none⟩)]), (.func (.func 158) #[] #[.pointer (some ⟨X1, 0, none⟩)]), (.func (.func 159) #[] #[.pointer (some ⟨X2, 0, none⟩), .pointer (some ⟨X, 0, none⟩)])]) (iV 0)).run Tryz.prog w = .ok (.func (.func 157) #[] #[.pointer (some ⟨X1, 0, none⟩)]) w := fun _ => by kernel_rfl
    have ix1 : ∀ w : World, (Instr.index 177 (.agg #[(.func (.func 157) #[] #[.pointer (some ⟨X1, 0, none⟩)]), (.func (.func 158) #[] #[.pointer (some ⟨X1, 0, none⟩)]), (.func (.func 159) #[] #[.pointer (some ⟨X2, 0, none⟩), .pointer (some ⟨X, 0, none⟩)])]) (iV 1)).run Tryz.prog w = .ok (.func (.func 158) #[] #[.pointer (some ⟨X1, 0, none⟩)]) w := fun _ => by kernel_rfl
    have ix2 : ∀ w : World, (Instr.index 177 (.agg #[(.func (.func 157) #[] #[.pointer (some ⟨X1, 0, none⟩)]), (.func (.func 158) #[] #[.pointer (some ⟨X1, 0, none⟩)]), (.func (.func 159) #[] #[.pointer (some ⟨X2, 0, none⟩), .pointer (some ⟨X, 0, none⟩)])]) (iV 2)).run Tryz.prog w = .ok (.func (.func 159) #[] #[.pointer (some ⟨X2, 0, none⟩), .pointer (some ⟨X, 0, none⟩)]) w := fun _ => by kernel_rfl
    have c0 := HC0.out
    go_wp2
    clear c0
    go_loopw [25, 12] (fun i v wr => ∃ (k m : Nat) (xs : List Value), k ≤ L.length ∧ k ≤ lim ∧ m ≤ k ∧ i = iV k ∧ Hid (wr.ownsRow (X3 + 1) 138 3 v m xs) ∧ Hid (∀ x ∈ xs, x.oneCell' = true) ∧ Hid (Below (X3 + 1) W wr) ∧ Hid (m = 0 ↔ ∀ j < k, okAt nm gd L j)) (fun i _ _ => lim + 1 - (intOf i).toNat)
    case atStart => exact ⟨0, 0, [], by omega, by omega, by omega, rfl, World.ownsRow_nil _ _ _ _, (fun x hx => by cases hx), Below.refl _ _, ⟨fun _ j hj => by omega, fun _ => rfl⟩⟩
    case round =>
      obtain ⟨k, m, xs, hk1, hk2, hmk, rfl, HO, H1, HB, HQ⟩ := hrel
      obtain ⟨A2, c2, rfl⟩ := own_form HO.out
      have m0 : (0 : Int) ≤ (k : Int) := by omega
      by_cases hlt : k < lim ∧ k < L.length
      · obtain ⟨hlt1, hlt2⟩ := hlt
        have m1 : (k : Int) < (lim : Int) := by omega
        have m2 : (k : Int) < (L.length : Int) := by omega
        have HBr := Lib.hid (HBX.out _ HB.out)
        obtain ⟨r0, r1, r2, r3⟩ := HCX.out _ HB.out
        have R3 := Lib.hid r3
        clear r0 r2 r3
        have hx : L[k]? = some L[k] := List.getElem?_eq_getElem _
        generalize L[k] = x at hx
        have HXX := Lib.hid hx; clear hx
        go_wp2_with (refine wpList_load_row (by rfl) 177 (.tmp 11) (by rfl) X3 (by rfl) 177 #[(.func (.func 157) #[] #[.pointer (some ⟨X1, 0, none⟩)]), (.func (.func 158) #[] #[.pointer (some ⟨X1, 0, none⟩)]), (.func (.func 159) #[] #[.pointer (some ⟨X2, 0, none⟩), .pointer (some ⟨X, 0, none⟩)])] (0, 0) _ R3.out Tryz.underlying177 (by rfl) (by kernel_rfl) ?_)
        refine wp_loop_rounds 4 ?_
        rw [rounds_succ]
        go_wp2_with fail
        refine (rule1_cls f fb nm L.length k X1 _ (HF.out.below HBr.out) (HK.out.below HBr.out) hlt2 (HN.out k hlt2) r1 EF.out).mono ?_
        rintro e w1 ⟨rfl, hb⟩
        have HC1' := Lib.hid hb; clear hb
        have HB1 : Hid (Below (X3 + 1) W w1) := HB.out.trans (HC1'.out.mono (Nat.le_trans HWL.out HB.out.size))
        have HO1 := Lib.hid (own_below HO.out HC1'.out)
        clear r1 HC1' HO HB HBr
        cases hn1 : nameB (nm k)
        case false =>
          have HBAD : Hid (m + 1 = 0 ↔ ∀ j < k + 1, okAt nm gd L j) := ok_bad (fun h => by rw [h.1] at hn1; cases hn1)
          clear hn1
          go_wp2_with (refine wpList_app (by rfl) (.tmp 37) (.tmp 42) 80 80 (by rfl) (X3 + 1) 138 i0 _ 3 24 Tryz.underlying80 hi0 hz0 hz1 hz2 (by rfl) _ m xs (by rfl) (HO1.out.alloc (.cells #[iV kind, iV k, iV 1] 138)) _ (by rfl) 1 [iV kind, iV k, iV 1] (src_k 3 Tryz.underlying80 (Rd.new _ [iV kind, iV k, iV 1] _) rfl (by simp [Value.oneCell'])) (by unfold maxLen; omega) (by omega) (by have := HWL.out; have := HB1.out.size; simp; omega) ?_; intro A4 c4 w4 ho hgr hbl; have HO4 := Lib.hid ho; have HB4 := Lib.hid (app_below (HB1.out.alloc (Nat.le_trans HWL.out HB1.out.size) _) HWL.out (HO1.out.alloc _) (Nat.le_refl _) hgr); clear ho hgr hbl)
          go_roundw
          case rel => exact ⟨k + 1, m + 1, xs ++ [iV kind, iV k, iV 1], by omega, by omega, by omega, by go_num, HO4.out, one3 H1.out, HB4.out, HBAD.out⟩
          case measure => simp [intOf]; omega
        case true =>
          have HN1 := Lib.hid hn1; clear hn1
          go_wp2
          rw [rounds_succ]
          obtain ⟨r0, r1, r2, -⟩ := HCX.out _ HB1.out
          have HBr := Lib.hid (HBX.out _ HB1.out)
          clear r0 r2
          go_wp2_with fail
          refine (rule2_cls f fb nm L.length k X1 _ (HF.out.below HBr.out) hlt2 HL.out r1 EF.out).mono ?_
          rintro e w2 ⟨⟨y, rfl, hy⟩, hb⟩
          have HY := Lib.hid hy; clear hy
          have HC1' := Lib.hid hb; clear hb
          have HB2 : Hid (Below (X3 + 1) W w2) := HB1.out.trans (HC1'.out.mono (Nat.le_trans HWL.out HB1.out.size))
          have HO2 := Lib.hid (own_below HO1.out HC1'.out)
          clear r1 HC1' HO1 HB1 HBr
          by_cases hy0 : y = 0
          case neg =>
            have HBAD : Hid (m + 1 = 0 ↔ ∀ j < k + 1, okAt nm gd L j) := ok_bad (fun h => hy0 (HY.out.2 h.2.1))
            have y1 : (y != 0) = true := by simpa using hy0
            have y2 : (y == 0) = false := by simpa using hy0
            clear hy0
            go_wp2_with (refine wpList_app (by rfl) (.tmp 37) (.tmp 42) 80 80 (by rfl) (X3 + 1) 138 i0 _ 3 24 Tryz.underlying80 hi0 hz0 hz1 hz2 (by rfl) _ m xs (by rfl) (HO2.out.alloc (.cells #[iV kind, iV k, iV y] 138)) _ (by rfl) 1 [iV kind, iV k, iV y] (src_k 3 Tryz.underlying80 (Rd.new _ [iV kind, iV k, iV y] _) rfl (by simp [Value.oneCell'])) (by unfold maxLen; omega) (by omega) (by have := HWL.out; have := HB2.out.size; simp; omega) ?_; intro A4 c4 w4 ho hgr hbl; have HO4 := Lib.hid ho; have HB4 := Lib.hid (app_below (HB2.out.alloc (Nat.le_trans HWL.out HB2.out.size) _) HWL.out (HO2.out.alloc _) (Nat.le_refl _) hgr); clear ho hgr hbl)
            go_roundw
            case rel => exact ⟨k + 1, m + 1, xs ++ [iV kind, iV k, iV y], by omega, by omega, by omega, by go_num, HO4.out, one3 H1.out, HB4.out, HBAD.out⟩
            case measure => simp [intOf]; omega
          case pos =>
            have HN2 : Hid (freshB nm k = true) := HY.out.1 hy0
            subst hy0
            clear HY
            go_wp2
            rw [rounds_succ]
            obtain ⟨r0, r1, r2, -⟩ := HCX.out _ HB2.out
            have HBr := Lib.hid (HBX.out _ HB2.out)
            clear r1
            go_wp2_with fail
            refine (rule3_cls g gb gd L A c k X2 X x _ (HG.out.below HBr.out) HL.out (HR.out.below HBr.out) HXX.out r2 r0 EG.out).mono ?_
            rintro e w3 ⟨rfl, hb⟩
            have HC1' := Lib.hid hb; clear hb
            have HB3 : Hid (Below (X3 + 1) W w3) := HB2.out.trans (HC1'.out.mono (Nat.le_trans HWL.out HB2.out.size))
            have HO3 := Lib.hid (own_below HO2.out HC1'.out)
            clear r0 r2 HC1' HO2 HB2 HBr
            cases hn3 : gd x
            case false =>
              have HBAD : Hid (m + 1 = 0 ↔ ∀ j < k + 1, okAt nm gd L j) := ok_bad (fun h => by rw [h.2.2 x HXX.out] at hn3; cases hn3)
              clear hn3
              go_wp2_with (refine wpList_app (by rfl) (.tmp 37) (.tmp 42) 80 80 (by rfl) (X3 + 1) 138 i0 _ 3 24 Tryz.underlying80 hi0 hz0 hz1 hz2 (by rfl) _ m xs (by rfl) (HO3.out.alloc (.cells #[iV kind, iV k, iV 1] 138)) _ (by rfl) 1 [iV kind, iV k, iV 1] (src_k 3 Tryz.underlying80 (Rd.new _ [iV kind, iV k, iV 1] _) rfl (by simp [Value.oneCell'])) (by unfold maxLen; omega) (by omega) (by have := HWL.out; have := HB3.out.size; simp; omega) ?_; intro A4 c4 w4 ho hgr hbl; have HO4 := Lib.hid ho; have HB4 := Lib.hid (app_below (HB3.out.alloc (Nat.le_trans HWL.out HB3.out.size) _) HWL.out (HO3.out.alloc _) (Nat.le_refl _) hgr); clear ho hgr hbl)
              go_roundw
              case rel => exact ⟨k + 1, m + 1, xs ++ [iV kind, iV k, iV 1], by omega, by omega, by omega, by go_num, HO4.out, one3 H1.out, HB4.out, HBAD.out⟩
              case measure => simp [intOf]; omega
            case true =>
              have HGOOD : Hid (m = 0 ↔ ∀ j < k + 1, okAt nm gd L j) := ok_snoc HQ.out ⟨HN1.out, HN2.out, fun z hz => by rw [HXX.out] at hz; cases hz; exact hn3⟩
              clear hn3 HQ
              go_wp2
              rw [rounds_succ]
              go_wp2
              go_roundw
              case rel => exact ⟨k + 1, m, xs, by omega, by omega, by omega, by go_num, HO3.out, H1.out, HB3.out, HGOOD.out⟩
              case measure => simp [intOf]; omega
      · have m1 : ¬ (k : Int) < (L.length : Int) := by omega
        obtain ⟨r0, r1, r2, -⟩ := HCX.out _ HB.out
        clear r1 r2
        go_wp2
        go_ret
        exact ⟨A2, m, c2, xs, rfl, own_base HO.out (by have := HX.out; have := HX1.out; have := HX2.out; have := HX3.out; omega), H1.out, HQ.out.trans ⟨fun h => ⟨by omega, fun i hi => h i (by omega)⟩, fun h j hj => h.2 j (by omega)⟩, by omega, HBX.out _ HB.out⟩

end Go.Proofs.YtjpabeoflhkfkaaGreatDoor
namespace Go.Proofs.YtjpabeoflhkfkaaGreatDoor
open Go.RowKit

def edgesOf (n : Net) : List (Nat × Nat × Int) := n.lins.map fun l => (l.frm.toNat, l.to.toNat, l.travel)
/-- What the relaxation asks of the lines. -/
def LinsIn (n : Net) : Prop := ∀ l ∈ n.lins, 0 ≤ l.frm ∧ l.frm < 12 ∧ 0 ≤ l.to ∧ l.to < 12 ∧ 0 ≤ l.travel ∧ l.travel ≤ 5000
theorem edges_in {n : Net} (h : LinsIn n) : EdgesIn (edgesOf n) 5000 := by
  intro e he
  obtain ⟨l, hl, rfl⟩ := List.mem_map.1 he
  have := h l hl
  dsimp only
  omega
theorem edges_step (es : List (Nat × Nat × Int)) (k : Nat) (e : Nat × Nat × Int) (h : es[k]? = some e) : edgesM (es.take (k + 1)) = relaxM (edgesM (es.take k)) e.1 e.2.1 e.2.2 := by
  unfold edgesM
  rw [List.take_add_one, h, List.foldl_append]
  rfl
theorem mid_rng {es : List (Nat × Nat × Int)} (he : EdgesIn es 5000) {k m j : Nat} (hk : k < 12) (a b : Nat) : rowM k m j (stageM k m (allM k (edgesM es))) a b = -1 ∨ 0 ≤ rowM k m j (stageM k m (allM k (edgesM es))) a b ∧ rowM k m j (stageM k m (allM k (edgesM es))) a b ≤ 41000000 := by
  have h1 := (all_ok (by omega) he k (by omega)).1
  have hp : (5000 : Int) * 2 ^ k ≤ 20480000 := by
    rcases (by omega : k = 0 ∨ k = 1 ∨ k = 2 ∨ k = 3 ∨ k = 4 ∨ k = 5 ∨ k = 6 ∨ k = 7 ∨ k = 8 ∨ k = 9 ∨ k = 10 ∨ k = 11) with rfl | rfl | rfl | rfl | rfl | rfl | rfl | rfl | rfl | rfl | rfl | rfl <;> decide
  have hp0 : 0 ≤ (5000 : Int) * 2 ^ k := Int.mul_nonneg (by omega) (Int.pow_nonneg (by omega))
  have h2 := ((MidM.stage hp0 h1 k m).rows h1 m j).ok.rng a b
  rcases h2 with h2 | h2
  · exact .inl h2
  · exact .inr ⟨h2.1, by omega⟩
theorem mid_same {es : List (Nat × Nat × Int)} (he : EdgesIn es 5000) {k m j : Nat} (hk : k < 12) : rowM k m (j + 1) (stageM k m (allM k (edgesM es))) m k = rowM k m j (stageM k m (allM k (edgesM es))) m k ∧ rowM k m (j + 1) (stageM k m (allM k (edgesM es))) k j = rowM k m j (stageM k m (allM k (edgesM es))) k j := by
  have h1 := (all_ok (by omega) he k (by omega)).1
  have hp0 : 0 ≤ (5000 : Int) * 2 ^ k := Int.mul_nonneg (by omega) (Int.pow_nonneg (by omega))
  have h2 := (MidM.stage hp0 h1 k m).rows h1 m j
  have h3 := (MidM.stage hp0 h1 k m).rows h1 m (j + 1)
  exact ⟨(h3.col m).trans (h2.col m).symm, (h3.row j).trans (h2.row j).symm⟩
/-- What relaxed answers. -/
def RelaxedR (w : World) (n : Net) (e : Ending) (w' : World) : Prop :=
  ∃ cs : Array Value, e = .returned (.agg cs) ∧ cs.size = 144 ∧ (∀ a b, a < 12 → b < 12 → cs[a * 12 + b]? = some (iV (distM (edgesOf n) a b))) ∧ Below w.heap.size w w'
theorem mat_size : (Tryz.prog.info? 135).map (·.size) = some 144 := by kernel_rfl
/-- The distances of the start, as far as they are written. -/
def initM (i j : Nat) : Mat := fun a b => if a = b then 0 else if a < i ∨ a = i ∧ b < j then -1 else 0
theorem initM_zero (a b : Nat) : initM 0 0 a b = 0 := by simp [initM]
theorem initM_next (i j : Nat) (h : i ≠ j) : updM (initM i j) i j (-1) = initM i (j + 1) := by
  funext a b
  unfold updM initM
  by_cases h1 : a = i ∧ b = j
  · obtain ⟨rfl, rfl⟩ := h1
    simp [h]
  · rw [if_neg h1]
    by_cases hab : a = b
    · simp [hab]
    · rw [if_neg hab, if_neg hab]
      have : (a < i ∨ a = i ∧ b < j) ↔ (a < i ∨ a = i ∧ b < j + 1) := by omega
      simp only [this]
theorem initM_same (i : Nat) : initM i i = initM i (i + 1) := by
  funext a b
  unfold initM
  by_cases hab : a = b
  · simp [hab]
  · rw [if_neg hab, if_neg hab]
    have : (a < i ∨ a = i ∧ b < i) ↔ (a < i ∨ a = i ∧ b < i + 1) := by omega
    simp only [this]
theorem Blk.congr {w : World} {R : Nat} {M N : Mat} (h : Blk w R M) (he : ∀ a b, a < 12 → b < 12 → M a b = N a b) : Blk w R N := by
  obtain ⟨cs, h1, h2, h3⟩ := h
  exact ⟨cs, h1, h2, fun a b ha hb => by rw [h3 a b ha hb, he a b ha hb]⟩
theorem zc_eq : Tryz.zeroCells135 = Array.replicate 144 (iV 0) := by kernel_rfl
theorem Blk.zero {w : World} {R : Nat} (h : w.heap[R]? = some (.cells Tryz.zeroCells135 135 (0, 0))) : Blk w R (initM 0 0) :=
  ⟨_, h, by rw [zc_eq]; simp, fun a b ha hb => by rw [initM_zero, zc_eq, Array.getElem?_replicate, if_pos (by omega)]⟩
theorem Blk.one {w : World} {R : Nat} {M : Mat} (h : Blk w R M) : ∃ cs : Array Value, w.heap[R]? = some (.cells cs 135 (0, 0)) ∧ cs.size = 144 ∧ (∀ a b, a < 12 → b < 12 → cs[a * 12 + b]? = some (iV (M a b))) ∧ cs.all (·.oneCell') = true := by
  obtain ⟨cs, h1, h2, h3⟩ := h
  refine ⟨cs, h1, h2, h3, ?_⟩
  rw [Array.all_eq_true]
  intro i hi
  have hq := Nat.div_add_mod i 12
  have hm := Nat.mod_lt i (show 12 > 0 by omega)
  have := h3 (i / 12) (i % 12) (by omega) hm
  rw [show i / 12 * 12 + i % 12 = i by omega, Array.getElem?_eq_getElem hi] at this
  rw [Option.some.inj this]
  rfl
theorem initM_row (k a b : Nat) (hb : b < 12) : initM k 12 a b = initM (k + 1) 0 a b := by
  unfold initM
  by_cases hab : a = b
  · simp [hab]
  · rw [if_neg hab, if_neg hab]
    have : (a < k ∨ a = k ∧ b < 12) ↔ (a < k + 1 ∨ a = k + 1 ∧ b < 0) := by omega
    simp only [this]
theorem initM_end (a b : Nat) (ha : a < 12) : initM 12 0 a b = edgesM [] a b := by
  unfold initM edgesM zeroM
  by_cases hab : a = b
  · simp [hab]
  · simp [hab, ha]
theorem below_grown {B R : Nat} {a b c : World} (h : Below B a b) (hg : b.grownBy c (some R)) (hR : B ≤ R) (hB : B ≤ b.heap.size) : Below B a c :=
  ⟨hg.os.trans h.os, hg.tape.trans h.tape, hg.output.trans h.output, Nat.le_trans h.size hg.size, fun i hi => (hg.block i (Nat.lt_of_lt_of_le hi hB) (by simp; omega)).trans (h.block i hi)⟩
set_option maxHeartbeats 8000000 in
set_option maxRecDepth 100000 in
theorem relaxed_any (n : Net) (w : World) (hn : NetIn w n) (hL : LinsIn n) :
    Calls Tryz.prog 76 #[netV n] w (RelaxedR w n) := by
  have HL := Lib.hid hL; clear hL
  have HE := Lib.hid (edges_in HL.out)
  have hll := hn.lens.2.2.2.2.1
  unfold maxLen at hll
  have HB0 : Hid (Below w.heap.size w (((w.alloc (netO n)).alloc (.cells Tryz.zeroCells135 135)).alloc (.cells Tryz.zeroCells135 135))) := (((Below.refl _ w).alloc (Nat.le_refl _) _).alloc (by simp) _).alloc (by simp; omega) _
  have HX : Hid ((((w.alloc (netO n)).alloc (.cells Tryz.zeroCells135 135)).alloc (.cells Tryz.zeroCells135 135)).heap[w.heap.size]? = some (netO n)) := (Below.heap_alloc _ _ _ (by simp; omega)).trans ((Below.heap_alloc _ _ _ (by simp)).trans (heap_alloc_new _ _))
  have HQ0 : Hid ((((w.alloc (netO n)).alloc (.cells Tryz.zeroCells135 135)).alloc (.cells Tryz.zeroCells135 135)).heap[w.heap.size + 1]? = some (.cells Tryz.zeroCells135 135 (0, 0))) := by
    refine (Below.heap_alloc _ _ _ (by simp)).trans ?_
    have := heap_alloc_new (w.alloc (netO n)) (.cells Tryz.zeroCells135 135)
    rwa [World.size_alloc] at this
  have HR0 : Hid ((((w.alloc (netO n)).alloc (.cells Tryz.zeroCells135 135)).alloc (.cells Tryz.zeroCells135 135)).heap[w.heap.size + 1 + 1]? = some (.cells Tryz.zeroCells135 135 (0, 0))) := by
    have := heap_alloc_new ((w.alloc (netO n)).alloc (.cells Tryz.zeroCells135 135)) (.cells Tryz.zeroCells135 135)
    rwa [World.size_alloc, World.size_alloc] at this
  have HN := Lib.hid hn; clear hn
  go_enter Tryz.func76, Tryz.ntmps76
  go_upto_region 3 with fail
  change Code.wp _ _ _ _ (((w.alloc (netO n)).alloc (.cells Tryz.zeroCells135 135)).alloc (.cells Tryz.zeroCells135 135))
  generalize (((w.alloc (netO n)).alloc (.cells Tryz.zeroCells135 135)).alloc (.cells Tryz.zeroCells135 135)) = W0 at *
  generalize hX : w.heap.size = X at *
  generalize hQ : X + 1 = Q at *
  generalize hR : Q + 1 = R at *
  have HXE := Lib.hid hX; clear hX
  have HQE := Lib.hid hQ; clear hQ
  have HRE := Lib.hid hR; clear hR
  have HNB : Hid (∀ wr, Below R W0 wr → NetIn wr n) := fun wr h => HN.out.below (by rw [HXE.out]; exact HB0.out.trans (h.mono (by have := HQE.out; have := HRE.out; omega)))
  have HRW : Hid (R < W0.heap.size) := block_lt HR0.out
  go_loopw [12] (fun i wr => ∃ k : Nat, k ≤ 12 ∧ i = iV k ∧ Hid (Below R W0 wr) ∧ Hid (Blk wr R (initM k 0))) (fun i _ => 13 - (intOf i).toNat)
  case atStart => exact ⟨0, by omega, rfl, Below.refl _ _, Blk.zero HR0.out⟩
  case round =>
    obtain ⟨k, hk, rfl, HB, HM⟩ := hrel
    have k0 : (0 : Int) ≤ (k : Int) := by omega
    by_cases hlt : k < 12
    · have k1 : (k : Int) < 12 := by omega
      go_wp2
      go_loopw [15] (fun i wr => ∃ m : Nat, m ≤ 12 ∧ i = iV m ∧ Hid (Below R W0 wr) ∧ Hid (Blk wr R (initM k m))) (fun i _ => 13 - (intOf i).toNat)
      case atStart => exact ⟨0, by omega, rfl, HB.out, HM.out⟩
      case round =>
        clear HB HM
        obtain ⟨m, hm, rfl, HB, HM⟩ := hrel
        have m0 : (0 : Int) ≤ (m : Int) := by omega
        by_cases hmt : m < 12
        · have m1 : (m : Int) < 12 := by omega
          by_cases hkm : k = m
          · subst hkm
            have e1 : ((k : Int) != (k : Int)) = false := by simp
            have HM2 : Hid (initM k k = initM k (k + 1)) := initM_same k
            go_wp2
            go_roundw
            case rel => exact ⟨k + 1, by omega, by go_num, HB.out, by rw [← HM2.out]; exact HM.out⟩
            case measure => simp [intOf]; omega
          · have e1 : ((k : Int) != (m : Int)) = true := by simp; omega
            have e2 : ((k : Int) == (m : Int)) = false := by simp; omega
            obtain ⟨hc, hf⟩ := HM.out.cell hlt hmt
            have HM2 : Hid (Blk (wr.setCell ⟨R, k * 12 + m, none⟩ (iV (-1))) R (initM k (m + 1))) := by
              have := HM.out.set hlt hmt (-1)
              rwa [initM_next k m hkm] at this
            have HB2 : Hid (Below R W0 (wr.setCell ⟨R, k * 12 + m, none⟩ (iV (-1)))) := HB.out.setCell (Nat.le_refl _) _
            clear hkm
            go_wp2
            go_roundw
            case rel => exact ⟨m + 1, by omega, by go_num, HB2.out, HM2.out⟩
            case measure => simp [intOf]; omega
        · have m1 : ¬ (m : Int) < 12 := by omega
          have hm12 : m = 12 := by omega
          have HM2 : Hid (Blk wr R (initM (k + 1) 0)) := by
            rw [hm12] at HM
            exact HM.out.congr fun a b _ hb => initM_row k a b hb
          clear hm12
          go_wp2
          go_roundw
          case rel => exact ⟨k + 1, by omega, by go_num, HB.out, HM2.out⟩
          case measure => simp [intOf]; omega
    · have k1 : ¬ (k : Int) < 12 := by omega
      have hk12 : k = 12 := by omega
      have HM2 : Hid (Blk wr R (edgesM ((edgesOf n).take 0))) := by
        rw [hk12] at HM
        exact HM.out.congr fun a b ha _ => initM_end a b ha
      have HXb := Lib.hid ((HB.out.block X (by have := HQE.out; have := HRE.out; omega)).trans HX.out)
      have n4 : wr.cell? ⟨X, 4, none⟩ = some (.slice n.linA n.lins.length n.linC) := cell_of_row _ _ 4 _ _ _ HXb.out
      have HBS := Lib.hid HB.out
      clear hk12 HM
      go_wp2
      clear HB n4 HXb
      go_loopw [31] (fun i wr => ∃ m : Nat, m ≤ n.lins.length ∧ i = iV m ∧ Hid (Below R W0 wr) ∧ Hid (Blk wr R (edgesM ((edgesOf n).take m)))) (fun i _ => n.lins.length + 1 - (intOf i).toNat)
      case atStart => exact ⟨0, by omega, rfl, HBS.out, HM2.out⟩
      case round =>
        clear HM2 HBS
        obtain ⟨m, hm, rfl, HB, HM⟩ := hrel
        have m0 : (0 : Int) ≤ (m : Int) := by omega
        by_cases hmt : m < n.lins.length
        · have m1 : (m : Int) < (n.lins.length : Int) := by omega
          have hlm := List.mem_of_getElem? (linAt_get hmt)
          have HLN : Hid ((edgesOf n)[m]? = some ((linAt n m).frm.toNat, (linAt n m).to.toNat, (linAt n m).travel)) := by
            show _ = _
            unfold edgesOf
            rw [List.getElem?_map, linAt_get hmt]
            rfl
          obtain ⟨r1, r2, r3, r4, r5, r6⟩ := HL.out _ hlm
          obtain ⟨fa, hfa⟩ : ∃ a : Nat, (linAt n m).frm = (a : Int) := ⟨(linAt n m).frm.toNat, by omega⟩
          obtain ⟨fb, hfb⟩ : ∃ a : Nat, (linAt n m).to = (a : Int) := ⟨(linAt n m).to.toNat, by omega⟩
          have ha12 : fa < 12 := by omega
          have hb12 : fb < 12 := by omega
          have hea : (linAt n m).frm.toNat = fa := by omega
          have heb : (linAt n m).to.toNat = fb := by omega
          rw [hea, heb] at HLN
          have HST : Hid (edgesM ((edgesOf n).take (m + 1)) = relaxM (edgesM ((edgesOf n).take m)) fa fb (linAt n m).travel) := edges_step _ _ _ HLN.out
          obtain ⟨-, lb, lo, hlA, -, hl0, hlc⟩ := elem_at encLin_len (HNB.out _ HB.out).lins (linAt_get hmt) (by omega)
          have c0 : wr.cell? ⟨lb, lo + m * 6, none⟩ = some (sV (linAt n m).name) := hl0 _ rfl
          have c1 : wr.cell? ⟨lb, lo + m * 6 + 1, none⟩ = some (iV (linAt n m).frm) := hlc 1 _ rfl
          have c2 : wr.cell? ⟨lb, lo + m * 6 + 2, none⟩ = some (iV (linAt n m).to) := hlc 2 _ rfl
          have c3 : wr.cell? ⟨lb, lo + m * 6 + 3, none⟩ = some (iV (linAt n m).at_) := hlc 3 _ rfl
          have c4 : wr.cell? ⟨lb, lo + m * 6 + 4, none⟩ = some (iV (linAt n m).travel) := hlc 4 _ rfl
          have c5 : wr.cell? ⟨lb, lo + m * 6 + 5, none⟩ = some (iV (linAt n m).load) := hlc 5 _ rfl
          rw [hfa] at c1
          rw [hfb] at c2
          have HLA := Lib.hid hlA
          generalize (linAt n m).travel = tv at *
          clear hl0 hlc hea heb hfa hfb hlm r1 r2 r3 r4 HLN
          rw [hlA]
          clear hlA
          have HRl : Hid (R < wr.heap.size) := HM.out.lt
          have HB2 : Hid (Below R W0 (wr.alloc (.cells #[sV (linAt n m).name, iV fa, iV fb, iV (linAt n m).at_, iV tv, iV (linAt n m).load] 116))) := HB.out.alloc (Nat.le_of_lt HRl.out) _
          have HM2 : Hid (Blk (wr.alloc (.cells #[sV (linAt n m).name, iV fa, iV fb, iV (linAt n m).at_, iV tv, iV (linAt n m).load] 116)) R (edgesM ((edgesOf n).take m))) := HM.out.below (ba _ _)
          have hLN : (wr.alloc (.cells #[sV (linAt n m).name, iV fa, iV fb, iV (linAt n m).at_, iV tv, iV (linAt n m).load] 116)).heap[wr.heap.size]? = some (.cells #[sV (linAt n m).name, iV fa, iV fb, iV (linAt n m).at_, iV tv, iV (linAt n m).load] 116) := heap_alloc_new _ _
          have b1 : (wr.alloc (.cells #[sV (linAt n m).name, iV fa, iV fb, iV (linAt n m).at_, iV tv, iV (linAt n m).load] 116)).cell? ⟨wr.heap.size, 1, none⟩ = some (iV fa) := cell_of_row _ _ 1 _ _ _ hLN
          have b2 : (wr.alloc (.cells #[sV (linAt n m).name, iV fa, iV fb, iV (linAt n m).at_, iV tv, iV (linAt n m).load] 116)).cell? ⟨wr.heap.size, 2, none⟩ = some (iV fb) := cell_of_row _ _ 2 _ _ _ hLN
          have b4 : (wr.alloc (.cells #[sV (linAt n m).name, iV fa, iV fb, iV (linAt n m).at_, iV tv, iV (linAt n m).load] 116)).cell? ⟨wr.heap.size, 4, none⟩ = some (iV tv) := cell_of_row _ _ 4 _ _ _ hLN
          clear hLN HM HB
          go_upto_region 16 with fail
          change Code.wp _ _ _ _ (wr.alloc (.cells #[sV (linAt n m).name, iV fa, iV fb, iV (linAt n m).at_, iV tv, iV (linAt n m).load] 116))
          generalize (wr.alloc (.cells #[sV (linAt n m).name, iV fa, iV fb, iV (linAt n m).at_, iV tv, iV (linAt n m).load] 116)) = W1 at *
          go_wp2_with fail
          refine (relax_any R _ fa fb tv _ HM2.out ha12 hb12).mono ?_
          rintro e w2 ⟨rfl, hM3, hg3⟩
          rw [← HST.out] at hM3
          have HM3 := Lib.hid hM3; clear hM3
          have HB3 : Hid (Below R W0 w2) := below_grown HB2.out hg3 (Nat.le_refl _) (Nat.le_of_lt HM2.out.lt)
          clear hg3 b1 b2 b4 c0 c1 c2 c3 c4 c5
          go_wp2_with fail
          go_roundw
          case rel => exact ⟨m + 1, by omega, by go_num, HB3.out, HM3.out⟩
          case measure => simp [intOf]; omega
        · have m1 : ¬ (m : Int) < (n.lins.length : Int) := by omega
          have HM4 : Hid (Blk wr R (allM 0 (edgesM (edgesOf n)))) := by
            have h1 : m = (edgesOf n).length := by simp [edgesOf]; omega
            have := HM.out
            rw [h1, List.take_length] at this
            exact this
          have HB4 := Lib.hid HB.out
          clear HM HB
          go_wp2
          go_loopw [44] (fun i wr => ∃ k : Nat, k ≤ 12 ∧ i = iV k ∧ Hid (Below R W0 wr) ∧ Hid (Blk wr R (allM k (edgesM (edgesOf n))))) (fun i _ => 13 - (intOf i).toNat)
          case atStart => exact ⟨0, by omega, rfl, HB4.out, HM4.out⟩
          case round =>
            clear HM4 HB4
            obtain ⟨q, hq, rfl, HB, HM⟩ := hrel
            have q0 : (0 : Int) ≤ (q : Int) := by omega
            by_cases hqt : q < 12
            · have q1 : (q : Int) < 12 := by omega
              go_wp2
              go_loopw [47] (fun i wr => ∃ s : Nat, s ≤ 12 ∧ i = iV s ∧ Hid (Below R W0 wr) ∧ Hid (Blk wr R (stageM q s (allM q (edgesM (edgesOf n)))))) (fun i _ => 13 - (intOf i).toNat)
              case atStart => exact ⟨0, by omega, rfl, HB.out, HM.out⟩
              case round =>
                clear HM HB
                obtain ⟨s, hs, rfl, HB, HM⟩ := hrel
                have s0 : (0 : Int) ≤ (s : Int) := by omega
                by_cases hst : s < 12
                · have s1 : (s : Int) < 12 := by omega
                  go_wp2
                  go_loopw [50] (fun i wr => ∃ u : Nat, u ≤ 12 ∧ i = iV u ∧ Hid (Below R W0 wr) ∧ Hid (Blk wr R (rowM q s u (stageM q s (allM q (edgesM (edgesOf n))))))) (fun i _ => 13 - (intOf i).toNat)
                  case atStart => exact ⟨0, by omega, rfl, HB.out, HM.out⟩
                  case round =>
                    clear HM HB
                    obtain ⟨u, hu, rfl, HB, HM⟩ := hrel
                    have u0 : (0 : Int) ≤ (u : Int) := by omega
                    by_cases hut : u < 12
                    · have u1 : (u : Int) < 12 := by omega
                      have hr1 := mid_rng HE.out (m := s) (j := u) hqt s q
                      have hr2 := mid_rng HE.out (m := s) (j := u) hqt q u
                      have HST : Hid (rowM q s (u + 1) (stageM q s (allM q (edgesM (edgesOf n)))) = stepM q s (rowM q s u (stageM q s (allM q (edgesM (edgesOf n))))) u) := rowM_succ _ _ _ _
                      obtain ⟨hcol, hrow⟩ := mid_same HE.out (k := q) (m := s) (j := u) hqt
                      have HCOL := Lib.hid hcol; clear hcol
                      have HROW := Lib.hid hrow; clear hrow
                      generalize rowM q s u (stageM q s (allM q (edgesM (edgesOf n)))) = M at *
                      obtain ⟨d1, -⟩ := HM.out.cell hst hqt
                      obtain ⟨d2, -⟩ := HM.out.cell hqt hut
                      by_cases g1 : M s q = -1
                      · have g1' : (M s q != -1) = false := by simpa using g1
                        have HR1 : Hid (stepM q s M u = M) := if_neg (fun h => h.1 g1)
                        clear g1
                        go_wp2_with fail
                        go_roundw
                        case rel => exact ⟨u + 1, by omega, by go_num, HB.out, by rw [HST.out, HR1.out]; exact HM.out⟩
                        case measure => simp [intOf]; omega
                      · have g1' : (M s q != -1) = true := by simpa using g1
                        by_cases g2 : M q u = -1
                        · have g2' : (M q u != -1) = false := by simpa using g2
                          have HR1 : Hid (stepM q s M u = M) := if_neg (fun h => h.2 g2)
                          clear g1 g2
                          go_wp2_with fail
                          go_roundw
                          case rel => exact ⟨u + 1, by omega, by go_num, HB.out, by rw [HST.out, HR1.out]; exact HM.out⟩
                          case measure => simp [intOf]; omega
                        · have g2' : (M q u != -1) = true := by simpa using g2
                          have HR1 : Hid (stepM q s M u = relaxM M s u (M s q + M q u)) := if_pos ⟨g1, g2⟩
                          have b1 := (hr1.resolve_left g1).1
                          have b2 := (hr1.resolve_left g1).2
                          have b3 := (hr2.resolve_left g2).1
                          have b4 := (hr2.resolve_left g2).2
                          have hsum : IntKind.i64.wrap (M s q + M q u) = M s q + M q u := IntWalk.i64_in _ (by omega)
                          have hRl := HM.out.lt
                          have HKA : Hid (∀ w', Below wr.heap.size wr w' → w'.cell? ⟨R, s * 12 + q, none⟩ = some (iV (M s q)) ∧ w'.cell? ⟨R, q * 12 + u, none⟩ = some (iV (M q u))) := fun w' hb => ⟨(hb.cell (p := ⟨R, _, none⟩) hRl).trans d1, (hb.cell (p := ⟨R, _, none⟩) hRl).trans d2⟩
                          have HKB : Hid (∀ w', Blk w' R (rowM q s (u + 1) (stageM q s (allM q (edgesM (edgesOf n))))) → w'.cell? ⟨R, s * 12 + q, none⟩ = some (iV (M s q)) ∧ w'.cell? ⟨R, q * 12 + u, none⟩ = some (iV (M q u))) := fun w' hb => ⟨by have := (hb.cell hst hqt).1; rwa [HCOL.out] at this, by have := (hb.cell hqt hut).1; rwa [HROW.out] at this⟩
                          clear g1 g2 hr1 hr2 b1 b2 b3 b4
                          go_upto_region 28 with fail
                          go_region_held3 (fun w' => w'.cell? ⟨R, s * 12 + q, none⟩ = some (iV (M s q)) ∧ w'.cell? ⟨R, q * 12 + u, none⟩ = some (iV (M q u))) (first | (with_reducible exact HKA.out _ (b_drew (Below.refl _ _))) | (with_reducible exact HKB.out _ HM3.out)) ((go_at_call 121; refine (relax_any R M s u (M s q + M q u) _ (HM.out.below (b_drew (Below.refl _ _))) hst hut).mono ?_; rintro e w2 ⟨rfl, hM3, hg3⟩; rw [← HR1.out, ← HST.out] at hM3; have HM3 := Lib.hid hM3; clear hM3; have HB3 : Hid (Below R W0 w2) := below_grown (HB.out.drew) hg3 (Nat.le_refl _) (Nat.le_of_lt HM.out.lt); clear hg3))
                          clear d1 d2 hsum
                          go_wp2_with fail
                          go_roundw
                          case rel => exact ⟨u + 1, by omega, by go_num, HB3.out, HM3.out⟩
                          case measure => simp [intOf]; omega
                    · have u1 : ¬ (u : Int) < 12 := by omega
                      have HM5 : Hid (Blk wr R (stageM q (s + 1) (allM q (edgesM (edgesOf n))))) := by
                        have h1 : u = 12 := by omega
                        have := HM.out
                        rw [h1] at this
                        rw [stageM_succ]
                        exact this
                      clear HM
                      go_wp2
                      go_roundw
                      case rel => exact ⟨s + 1, by omega, by go_num, HB.out, HM5.out⟩
                      case measure => simp [intOf]; omega
                · have s1 : ¬ (s : Int) < 12 := by omega
                  have HM5 : Hid (Blk wr R (allM (q + 1) (edgesM (edgesOf n)))) := by
                    have h1 : s = 12 := by omega
                    have := HM.out
                    rw [h1] at this
                    rw [allM_succ]
                    exact this
                  clear HM
                  go_wp2
                  go_roundw
                  case rel => exact ⟨q + 1, by omega, by go_num, HB.out, HM5.out⟩
                  case measure => simp [intOf]; omega
            · have q1 : ¬ (q : Int) < 12 := by omega
              have HM6 : Hid (Blk wr R (distM (edgesOf n))) := by
                have h1 : q = 12 := by omega
                have := HM.out
                rw [h1] at this
                exact this
              obtain ⟨cs, h1, h2, h3, h4⟩ := HM6.out.one
              have H1 := Lib.hid h1; clear h1
              have H2 := Lib.hid h2; clear h2
              have H3 := Lib.hid h3; clear h3
              have H4 := Lib.hid h4; clear h4
              have HQb := Lib.hid ((HB.out.block Q (by have := HRE.out; omega)).trans HQ0.out)
              have HSZ : Hid ((Tryz.zeroCells135).size = cs.size) := by show _ = _; rw [zc_eq, H2.out]; simp
              have HSI : Hid ((Tryz.prog.info? 135).map (·.size) = some cs.size) := by show _ = _; rw [H2.out]; exact mat_size
              clear HM HM6
              go_wp2_with (first | (refine wpList_load_row (by rfl) 135 (.tmp 3) (by rfl) R (by rfl) 135 cs (0, 0) _ H1.out Tryz.underlying135 (by rfl) HSI.out ?_) | (refine wpList_store_row (by rfl) 135 (.tmp 2) (.tmp 85) (by rfl) Q cs (by rfl) (by rfl) 135 _ HQb.out HSI.out HSZ.out H4.out ?_))
              have hQ := setRow_heap wr Q _ cs _ (0, 0) HQb.out
              refine bodyPost_ret (v := .agg cs) (results_cell_row rfl _ _ Q 135 cs (0, 0) _ (by rfl) hQ Tryz.underlying135 (by rfl) HSI.out) rfl ⟨cs, rfl, H2.out, H3.out, ?_⟩
              have h5 : Below X w wr := HB0.out.trans (HB.out.mono (by have := HQE.out; have := HRE.out; omega))
              rw [HXE.out]
              exact ⟨h5.os, h5.tape, h5.output, by simp; exact h5.size, fun i hi => (setRow_other _ _ _ _ (by have := HQE.out; omega)).trans (h5.block i hi)⟩
end Go.Proofs.YtjpabeoflhkfkaaGreatDoor
