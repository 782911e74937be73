/- The walks over the reference's names of things. The walks over the -/
import Derived.Test.YtpeaiphdkgifaaaGreatDoorVap
import Derived.Test.YtpeaiphdkgifaaaGreatDoorVac
import Derived.RecoverIn
import Derived.Great.Walk
namespace Go.Proofs.YtpeaiphdkgifaaaGreatDoor
open Go.RowKit
set_option maxHeartbeats 20000000
set_option maxRecDepth 100000
def gx (n : Net) : Prop := n.cals.length <= 10 /\ n.names.length <= 10 /\ n.ops.length <= 10 /\ n.offs.length <= 16 /\ n.lins.length <= 50 /\ n.clss.length <= 8
def aW (n : Net) : Nat -> List (List UInt8)
 | 1 => (List.range n.cals.length).map (eM n)
 | 2 => n.ops
 | 3 => n.offs.map (·.name)
 | 4 => n.lins.map (·.name)
 | _ => n.clss.map (·.name)
theorem kc : (Tryz.prog.info? 9).map (fun i => (i.zero, i.size, i.bytes)) = some (some (sV []), 1, 16) := by kernel_rfl
def lg (w : World) (L : List (List UInt8)) (e : Ending) (w' : World) : Prop := ∃ A c, e = .returned (.slice A L.length c) /\ Rd w' A (L.map sV) /\ (∀ a, A = some a -> w.heap.size <= a.block /\ a.block < w'.heap.size) /\ Below w.heap.size w w'
theorem fT {w : World} {base size n m c : Nat} {e : TypeId} {A : Option Addr} {xs : List Value} (h : w.ownsRow base e size (.slice A n c) m xs) : ∀ a, A = some a -> base <= a.block /\ a.block < w.heap.size := by
 rintro a rfl
 rcases h.2 with ⟨hv, _⟩ | ⟨g, cap, cur, hv, hb, hg, _⟩
 ·cases hv
 ·cases hv
  exact ⟨hb, aa hg⟩
theorem sZ {α : Type} {L : List α} {k : Nat} {x : α} (h : L[k]? = some x) : L.take k ++ [x] = L.take (k + 1) := by rw [List.take_add_one, h]; rfl
theorem jp {L : List (List UInt8)} {k : Nat} {x : List UInt8} (h : L[k]? = some x) : (L.take k).map sV ++ [sV x] = (L.take (k + 1)).map sV := by rw [<- sZ h, List.map_append]; rfl
theorem names_1 (n : Net) (w : World) (hn : bj w n) (hf : gx n) :
  Calls Tryz.prog 181 #[bB n, iV 1] w (lg w (aW n 1)) := by
 obtain ⟨i0, hi0, hz0, hz1, hz2⟩ := info_parts kc
 obtain ⟨f1, f2, f3, f4, f5, f6⟩ := hf
 have hb0 := ba w (ae n)
 have hx0 := aC w (ae n)
 have HNP : Hid (br (w.alloc (ae n)) w.heap.size n) := ⟨fun i v hv => (aA _ hx0).trans hv, hn.below hb0⟩
 have HNW := aB hn
 have HB0 := aB hb0
 have HWL : Hid (w.heap.size + 1 <= (w.alloc (ae n)).heap.size) := aa hx0
 clear hn hb0 hx0
 go_enter Tryz.func181, Tryz.ntmps181
 go_upto_region 1 with fail
 change Code.wp _ _ _ _ (w.alloc (ae n))
 generalize (w.alloc (ae n)) = W at *
 generalize hX : w.heap.size = X at *
 have HX := aB hX; clear hX
 have HNB : Hid (∀ wr, Below (X + 1) W wr -> Below w.heap.size w wr /\ br wr X n) := fun wr hb => cW HNW.out HX.out HB0.out HNP.out.box hb
 have hL : (aW n 1).length = n.cals.length := by simp [aW]
 have HL := aB hL; clear hL
 go_wp2
 go_loopw [6, 5] (fun i v wr => ∃ k : Nat, k <= n.cals.length /\ i = iV k /\ Hid (wr.ownsRow (X + 1) 9 1 v k (((aW n 1).take k).map sV)) /\ Hid (Below (X + 1) W wr)) (fun i _ _ => 60 - (intOf i).toNat)
 case atStart => exact ⟨0, by omega, rfl, World.ownsRow_nil _ _ _ _, aJ _ _⟩
 case round =>
  obtain ⟨k, hk, rfl, HO, HB⟩ := hrel
  obtain ⟨A2, c2, rfl⟩ := b9 HO.out
  have k0 : (0 : Int) <= (k : Int) := by omega
  have n0 : wr.cell? (aV X 0) = some (.slice n.calA n.cals.length n.calC) := (HNB.out _ HB.out).2.box 0 _ rfl
  by_cases hlt : k < n.cals.length
  ·have k1 : (k : Int) < (n.cals.length : Int) := by omega
   have hxx : (aW n 1)[k]? = some (eM n k) := by simp [aW, hlt]
   have HXX := aB hxx; clear hxx
   have n1 : wr.cell? (aV X 1) = some (.slice n.namA n.names.length n.namC) := (HNB.out _ HB.out).2.box 1 _ rfl
   by_cases hnm : k < n.names.length
   ·have j1 : (k : Int) < (n.names.length : Int) := by omega
    obtain ⟨b, off, hA, -, hc⟩ := (HNB.out _ HB.out).2.net.names.get (i := k) (by rw [List.length_map]; exact hnm)
    have x0 : wr.cell? (aV b (off + k)) = some (sV (eM n k)) := hc k _ (by unfold eM; simp [List.getD, hnm])
    rw [hA] at n1
    clear hc hA
    go_wp2_with (refine bg (by rfl) (.tmp 26) (.tmp 32) 23 23 (by rfl) (X + 1) 9 i0 _ 1 16 Tryz.underlying23 hi0 hz0 hz1 hz2 (by rfl) _ k _ (by rfl) (HO.out.alloc (.cells #[sV (eM n k)] 9)) _ (by rfl) 1 [sV (eM n k)] (fB 1 Tryz.underlying23 (Rd.new _ [sV (eM n k)] _) rfl (by simp [Value.oneCell'])) (by unfold maxLen; omega) (by omega) (by have := HWL.out; have := HB.out.size; simp; omega) ?_; intro A4 c4 w4 ho hgr hbl; rw [jp HXX.out] at ho; have HO4 := aB ho; have HB4 := aB (bp (HB.out.alloc (aG HWL.out HB.out.size) _) HWL.out (HO.out.alloc _) (aH _) hgr); clear ho hgr hbl)
    go_roundw
    case rel => exact ⟨k + 1, by omega, by go_num, HO4.out, HB4.out⟩
    case measure => simp [intOf]; omega
   ·have j1 : ¬ (k : Int) < (n.names.length : Int) := by omega
    have he : eM n k = [] := by unfold eM; simp [List.getD, hnm]
    rw [he] at HXX
    clear he
    go_wp2_with (refine bg (by rfl) (.tmp 34) (.tmp 35) 23 23 (by rfl) (X + 1) 9 i0 _ 1 16 Tryz.underlying23 hi0 hz0 hz1 hz2 (by rfl) _ k _ (by rfl) (HO.out.alloc (.cells #[sV []] 9)) _ (by rfl) 1 [sV []] (fB 1 Tryz.underlying23 (Rd.new _ [sV []] _) rfl (by simp [Value.oneCell'])) (by unfold maxLen; omega) (by omega) (by have := HWL.out; have := HB.out.size; simp; omega) ?_; intro A4 c4 w4 ho hgr hbl; rw [jp HXX.out] at ho; have HO4 := aB ho; have HB4 := aB (bp (HB.out.alloc (aG HWL.out HB.out.size) _) HWL.out (HO.out.alloc _) (aH _) hgr); clear ho hgr hbl)
    go_roundw
    case rel => exact ⟨k + 1, by omega, by go_num, HO4.out, HB4.out⟩
    case measure => simp [intOf]; omega
  ·have k1 : ¬ (k : Int) < (n.cals.length : Int) := by omega
   have hkl : k = (aW n 1).length := by have := HL.out; omega
   have HKL := aB hkl; clear hkl
   go_wp2
   go_ret
   exact ⟨A2, c2, by rw [<- HKL.out]; rfl, by have := cE HO.out; rwa [HKL.out, List.take_length] at this, (fun a ha => by have := fT HO.out a ha; have h2 := HX.out; exact ⟨by omega, this.2⟩), (HNB.out _ HB.out).1⟩
theorem names_2 (n : Net) (w : World) (hn : bj w n) (hf : gx n) :
  Calls Tryz.prog 181 #[bB n, iV 2] w (lg w (aW n 2)) := by
 obtain ⟨i0, hi0, hz0, hz1, hz2⟩ := info_parts kc
 obtain ⟨f1, f2, f3, f4, f5, f6⟩ := hf
 have hb0 := ba w (ae n)
 have hx0 := aC w (ae n)
 have HNP : Hid (br (w.alloc (ae n)) w.heap.size n) := ⟨fun i v hv => (aA _ hx0).trans hv, hn.below hb0⟩
 have HNW := aB hn
 have HB0 := aB hb0
 have HWL : Hid (w.heap.size + 1 <= (w.alloc (ae n)).heap.size) := aa hx0
 clear hn hb0 hx0
 go_enter Tryz.func181, Tryz.ntmps181
 go_upto_region 1 with fail
 change Code.wp _ _ _ _ (w.alloc (ae n))
 generalize (w.alloc (ae n)) = W at *
 generalize hX : w.heap.size = X at *
 have HX := aB hX; clear hX
 have HNB : Hid (∀ wr, Below (X + 1) W wr -> Below w.heap.size w wr /\ br wr X n) := fun wr hb => cW HNW.out HX.out HB0.out HNP.out.box hb
 have hL : (aW n 2).length = n.ops.length := by simp [aW]
 have HL := aB hL; clear hL
 go_wp2
 go_loopw [7, 5] (fun i v wr => ∃ k : Nat, k <= n.ops.length /\ i = iV k /\ Hid (wr.ownsRow (X + 1) 9 1 v k (((aW n 2).take k).map sV)) /\ Hid (Below (X + 1) W wr)) (fun i _ _ => 60 - (intOf i).toNat)
 case atStart => exact ⟨0, by omega, rfl, World.ownsRow_nil _ _ _ _, aJ _ _⟩
 case round =>
  obtain ⟨k, hk, rfl, HO, HB⟩ := hrel
  obtain ⟨A2, c2, rfl⟩ := b9 HO.out
  have k0 : (0 : Int) <= (k : Int) := by omega
  have n2 : wr.cell? (aV X 2) = some (.slice n.opA n.ops.length n.opC) := (HNB.out _ HB.out).2.box 2 _ rfl
  by_cases hlt : k < n.ops.length
  ·have k1 : (k : Int) < (n.ops.length : Int) := by omega
   have hx : n.ops[k]? = some n.ops[k] := aD _
   obtain ⟨b, off, hA, -, hc⟩ := (HNB.out _ HB.out).2.net.ops.get (i := k) (by rw [List.length_map]; exact hlt)
   generalize n.ops[k] = x at hx
   have x0 : wr.cell? (aV b (off + k)) = some (sV x) := hc k _ (by simp [hx])
   have hxx : (aW n 2)[k]? = some x := hx
   have HXX := aB hxx; clear hxx
   rw [hA] at n2
   clear hc hA hx
   go_wp2_with (refine bg (by rfl) (.tmp 46) (.tmp 53) 23 23 (by rfl) (X + 1) 9 i0 _ 1 16 Tryz.underlying23 hi0 hz0 hz1 hz2 (by rfl) _ k _ (by rfl) (HO.out.alloc (.cells #[sV x] 9)) _ (by rfl) 1 [sV x] (fB 1 Tryz.underlying23 (Rd.new _ [sV x] _) rfl (by simp [Value.oneCell'])) (by unfold maxLen; omega) (by omega) (by have := HWL.out; have := HB.out.size; simp; omega) ?_; intro A4 c4 w4 ho hgr hbl; rw [jp HXX.out] at ho; have HO4 := aB ho; have HB4 := aB (bp (HB.out.alloc (aG HWL.out HB.out.size) _) HWL.out (HO.out.alloc _) (aH _) hgr); clear ho hgr hbl)
   go_roundw
   case rel => exact ⟨k + 1, by omega, by go_num, HO4.out, HB4.out⟩
   case measure => simp [intOf]; omega
  ·have k1 : ¬ (k : Int) < (n.ops.length : Int) := by omega
   have hkl : k = (aW n 2).length := by have := HL.out; omega
   have HKL := aB hkl; clear hkl
   go_wp2
   go_ret
   exact ⟨A2, c2, by rw [<- HKL.out]; rfl, by have := cE HO.out; rwa [HKL.out, List.take_length] at this, (fun a ha => by have := fT HO.out a ha; have h2 := HX.out; exact ⟨by omega, this.2⟩), (HNB.out _ HB.out).1⟩
theorem names_3 (n : Net) (w : World) (hn : bj w n) (hf : gx n) :
  Calls Tryz.prog 181 #[bB n, iV 3] w (lg w (aW n 3)) := by
 obtain ⟨i0, hi0, hz0, hz1, hz2⟩ := info_parts kc
 obtain ⟨f1, f2, f3, f4, f5, f6⟩ := hf
 have hb0 := ba w (ae n)
 have hx0 := aC w (ae n)
 have HNP : Hid (br (w.alloc (ae n)) w.heap.size n) := ⟨fun i v hv => (aA _ hx0).trans hv, hn.below hb0⟩
 have HNW := aB hn
 have HB0 := aB hb0
 have HWL : Hid (w.heap.size + 1 <= (w.alloc (ae n)).heap.size) := aa hx0
 clear hn hb0 hx0
 go_enter Tryz.func181, Tryz.ntmps181
 go_upto_region 1 with fail
 change Code.wp _ _ _ _ (w.alloc (ae n))
 generalize (w.alloc (ae n)) = W at *
 generalize hX : w.heap.size = X at *
 have HX := aB hX; clear hX
 have HNB : Hid (∀ wr, Below (X + 1) W wr -> Below w.heap.size w wr /\ br wr X n) := fun wr hb => cW HNW.out HX.out HB0.out HNP.out.box hb
 have hL : (aW n 3).length = n.offs.length := by simp [aW]
 have HL := aB hL; clear hL
 go_wp2
 go_loopw [8, 5] (fun i v wr => ∃ k : Nat, k <= n.offs.length /\ i = iV k /\ Hid (wr.ownsRow (X + 1) 9 1 v k (((aW n 3).take k).map sV)) /\ Hid (Below (X + 1) W wr)) (fun i _ _ => 60 - (intOf i).toNat)
 case atStart => exact ⟨0, by omega, rfl, World.ownsRow_nil _ _ _ _, aJ _ _⟩
 case round =>
  obtain ⟨k, hk, rfl, HO, HB⟩ := hrel
  obtain ⟨A2, c2, rfl⟩ := b9 HO.out
  have k0 : (0 : Int) <= (k : Int) := by omega
  have n3 : wr.cell? (aV X 3) = some (.slice n.offA n.offs.length n.offC) := (HNB.out _ HB.out).2.box 3 _ rfl
  by_cases hlt : k < n.offs.length
  ·have k1 : (k : Int) < (n.offs.length : Int) := by omega
   have hx : n.offs[k]? = some n.offs[k] := aD _
   generalize n.offs[k] = y at hx
   obtain ⟨-, b, off, hA, -, hc0, -⟩ := ay cQ (HNB.out _ HB.out).2.net.offs hx (by omega)
   have x0 : wr.cell? (aV b (off + k * 7)) = some (sV y.name) := hc0 _ rfl
   have hxx : (aW n 3)[k]? = some y.name := by simp [aW, hx]
   have HXX := aB hxx; clear hxx
   rw [hA] at n3
   clear hc0 hA hx
   go_wp2_with (refine bg (by rfl) (.tmp 64) (.tmp 71) 23 23 (by rfl) (X + 1) 9 i0 _ 1 16 Tryz.underlying23 hi0 hz0 hz1 hz2 (by rfl) _ k _ (by rfl) (HO.out.alloc (.cells #[sV y.name] 9)) _ (by rfl) 1 [sV y.name] (fB 1 Tryz.underlying23 (Rd.new _ [sV y.name] _) rfl (by simp [Value.oneCell'])) (by unfold maxLen; omega) (by omega) (by have := HWL.out; have := HB.out.size; simp; omega) ?_; intro A4 c4 w4 ho hgr hbl; rw [jp HXX.out] at ho; have HO4 := aB ho; have HB4 := aB (bp (HB.out.alloc (aG HWL.out HB.out.size) _) HWL.out (HO.out.alloc _) (aH _) hgr); clear ho hgr hbl)
   go_roundw
   case rel => exact ⟨k + 1, by omega, by go_num, HO4.out, HB4.out⟩
   case measure => simp [intOf]; omega
  ·have k1 : ¬ (k : Int) < (n.offs.length : Int) := by omega
   have hkl : k = (aW n 3).length := by have := HL.out; omega
   have HKL := aB hkl; clear hkl
   go_wp2
   go_ret
   exact ⟨A2, c2, by rw [<- HKL.out]; rfl, by have := cE HO.out; rwa [HKL.out, List.take_length] at this, (fun a ha => by have := fT HO.out a ha; have h2 := HX.out; exact ⟨by omega, this.2⟩), (HNB.out _ HB.out).1⟩
theorem names_4 (n : Net) (w : World) (hn : bj w n) (hf : gx n) :
  Calls Tryz.prog 181 #[bB n, iV 4] w (lg w (aW n 4)) := by
 obtain ⟨i0, hi0, hz0, hz1, hz2⟩ := info_parts kc
 obtain ⟨f1, f2, f3, f4, f5, f6⟩ := hf
 have hb0 := ba w (ae n)
 have hx0 := aC w (ae n)
 have HNP : Hid (br (w.alloc (ae n)) w.heap.size n) := ⟨fun i v hv => (aA _ hx0).trans hv, hn.below hb0⟩
 have HNW := aB hn
 have HB0 := aB hb0
 have HWL : Hid (w.heap.size + 1 <= (w.alloc (ae n)).heap.size) := aa hx0
 clear hn hb0 hx0
 go_enter Tryz.func181, Tryz.ntmps181
 go_upto_region 1 with fail
 change Code.wp _ _ _ _ (w.alloc (ae n))
 generalize (w.alloc (ae n)) = W at *
 generalize hX : w.heap.size = X at *
 have HX := aB hX; clear hX
 have HNB : Hid (∀ wr, Below (X + 1) W wr -> Below w.heap.size w wr /\ br wr X n) := fun wr hb => cW HNW.out HX.out HB0.out HNP.out.box hb
 have hL : (aW n 4).length = n.lins.length := by simp [aW]
 have HL := aB hL; clear hL
 go_wp2
 go_loopw [9, 5] (fun i v wr => ∃ k : Nat, k <= n.lins.length /\ i = iV k /\ Hid (wr.ownsRow (X + 1) 9 1 v k (((aW n 4).take k).map sV)) /\ Hid (Below (X + 1) W wr)) (fun i _ _ => 60 - (intOf i).toNat)
 case atStart => exact ⟨0, by omega, rfl, World.ownsRow_nil _ _ _ _, aJ _ _⟩
 case round =>
  obtain ⟨k, hk, rfl, HO, HB⟩ := hrel
  obtain ⟨A2, c2, rfl⟩ := b9 HO.out
  have k0 : (0 : Int) <= (k : Int) := by omega
  have n4 : wr.cell? (aV X 4) = some (.slice n.linA n.lins.length n.linC) := (HNB.out _ HB.out).2.box 4 _ rfl
  by_cases hlt : k < n.lins.length
  ·have k1 : (k : Int) < (n.lins.length : Int) := by omega
   have hx : n.lins[k]? = some n.lins[k] := aD _
   generalize n.lins[k] = y at hx
   obtain ⟨-, b, off, hA, -, hc0, -⟩ := ay bT (HNB.out _ HB.out).2.net.lins hx (by omega)
   have x0 : wr.cell? (aV b (off + k * 6)) = some (sV y.name) := hc0 _ rfl
   have hxx : (aW n 4)[k]? = some y.name := by simp [aW, hx]
   have HXX := aB hxx; clear hxx
   rw [hA] at n4
   clear hc0 hA hx
   go_wp2_with (refine bg (by rfl) (.tmp 82) (.tmp 89) 23 23 (by rfl) (X + 1) 9 i0 _ 1 16 Tryz.underlying23 hi0 hz0 hz1 hz2 (by rfl) _ k _ (by rfl) (HO.out.alloc (.cells #[sV y.name] 9)) _ (by rfl) 1 [sV y.name] (fB 1 Tryz.underlying23 (Rd.new _ [sV y.name] _) rfl (by simp [Value.oneCell'])) (by unfold maxLen; omega) (by omega) (by have := HWL.out; have := HB.out.size; simp; omega) ?_; intro A4 c4 w4 ho hgr hbl; rw [jp HXX.out] at ho; have HO4 := aB ho; have HB4 := aB (bp (HB.out.alloc (aG HWL.out HB.out.size) _) HWL.out (HO.out.alloc _) (aH _) hgr); clear ho hgr hbl)
   go_roundw
   case rel => exact ⟨k + 1, by omega, by go_num, HO4.out, HB4.out⟩
   case measure => simp [intOf]; omega
  ·have k1 : ¬ (k : Int) < (n.lins.length : Int) := by omega
   have hkl : k = (aW n 4).length := by have := HL.out; omega
   have HKL := aB hkl; clear hkl
   go_wp2
   go_ret
   exact ⟨A2, c2, by rw [<- HKL.out]; rfl, by have := cE HO.out; rwa [HKL.out, List.take_length] at this, (fun a ha => by have := fT HO.out a ha; have h2 := HX.out; exact ⟨by omega, this.2⟩), (HNB.out _ HB.out).1⟩
theorem names_5 (n : Net) (w : World) (hn : bj w n) (hf : gx n) :
  Calls Tryz.prog 181 #[bB n, iV 5] w (lg w (aW n 5)) := by
 obtain ⟨i0, hi0, hz0, hz1, hz2⟩ := info_parts kc
 obtain ⟨f1, f2, f3, f4, f5, f6⟩ := hf
 have hb0 := ba w (ae n)
 have hx0 := aC w (ae n)
 have HNP : Hid (br (w.alloc (ae n)) w.heap.size n) := ⟨fun i v hv => (aA _ hx0).trans hv, hn.below hb0⟩
 have HNW := aB hn
 have HB0 := aB hb0
 have HWL : Hid (w.heap.size + 1 <= (w.alloc (ae n)).heap.size) := aa hx0
 clear hn hb0 hx0
 go_enter Tryz.func181, Tryz.ntmps181
 go_upto_region 1 with fail
 change Code.wp _ _ _ _ (w.alloc (ae n))
 generalize (w.alloc (ae n)) = W at *
 generalize hX : w.heap.size = X at *
 have HX := aB hX; clear hX
 have HNB : Hid (∀ wr, Below (X + 1) W wr -> Below w.heap.size w wr /\ br wr X n) := fun wr hb => cW HNW.out HX.out HB0.out HNP.out.box hb
 have hL : (aW n 5).length = n.clss.length := by simp [aW]
 have HL := aB hL; clear hL
 go_wp2
 go_loopw [10, 5] (fun i v wr => ∃ k : Nat, k <= n.clss.length /\ i = iV k /\ Hid (wr.ownsRow (X + 1) 9 1 v k (((aW n 5).take k).map sV)) /\ Hid (Below (X + 1) W wr)) (fun i _ _ => 60 - (intOf i).toNat)
 case atStart => exact ⟨0, by omega, rfl, World.ownsRow_nil _ _ _ _, aJ _ _⟩
 case round =>
  obtain ⟨k, hk, rfl, HO, HB⟩ := hrel
  obtain ⟨A2, c2, rfl⟩ := b9 HO.out
  have k0 : (0 : Int) <= (k : Int) := by omega
  have n5 : wr.cell? (aV X 5) = some (.slice n.clsA n.clss.length n.clsC) := (HNB.out _ HB.out).2.box 5 _ rfl
  by_cases hlt : k < n.clss.length
  ·have k1 : (k : Int) < (n.clss.length : Int) := by omega
   have hx : n.clss[k]? = some n.clss[k] := aD _
   generalize n.clss[k] = y at hx
   obtain ⟨-, b, off, hA, -, hc0, -⟩ := ay dh (HNB.out _ HB.out).2.net.clss hx (by omega)
   have x0 : wr.cell? (aV b (off + k * 3)) = some (sV y.name) := hc0 _ rfl
   have hxx : (aW n 5)[k]? = some y.name := by simp [aW, hx]
   have HXX := aB hxx; clear hxx
   rw [hA] at n5
   clear hc0 hA hx
   go_wp2_with (refine bg (by rfl) (.tmp 100) (.tmp 107) 23 23 (by rfl) (X + 1) 9 i0 _ 1 16 Tryz.underlying23 hi0 hz0 hz1 hz2 (by rfl) _ k _ (by rfl) (HO.out.alloc (.cells #[sV y.name] 9)) _ (by rfl) 1 [sV y.name] (fB 1 Tryz.underlying23 (Rd.new _ [sV y.name] _) rfl (by simp [Value.oneCell'])) (by unfold maxLen; omega) (by omega) (by have := HWL.out; have := HB.out.size; simp; omega) ?_; intro A4 c4 w4 ho hgr hbl; rw [jp HXX.out] at ho; have HO4 := aB ho; have HB4 := aB (bp (HB.out.alloc (aG HWL.out HB.out.size) _) HWL.out (HO.out.alloc _) (aH _) hgr); clear ho hgr hbl)
   go_roundw
   case rel => exact ⟨k + 1, by omega, by go_num, HO4.out, HB4.out⟩
   case measure => simp [intOf]; omega
  ·have k1 : ¬ (k : Int) < (n.clss.length : Int) := by omega
   have hkl : k = (aW n 5).length := by have := HL.out; omega
   have HKL := aB hkl; clear hkl
   go_wp2
   go_ret
   exact ⟨A2, c2, by rw [<- HKL.out]; rfl, by have := cE HO.out; rwa [HKL.out, List.take_length] at this, (fun a ha => by have := fT HO.out a ha; have h2 := HX.out; exact ⟨by omega, this.2⟩), (HNB.out _ HB.out).1⟩
theorem cj (v a b : Int) (w : World) : Calls Tryz.prog 212 #[iV v, iV a, iV b] w fun e w' => e = .returned (.bool (bW v a b)) /\ w = w' := by
 by_cases h : a <= v
 ·have HR : Hid (bW v a b = decide (v <= b)) := by show _ = _; unfold bW; simp [h]
  go_enter Tryz.func212, Tryz.ntmps212
  go_wp2
  go_ret
  exact ⟨ah HR.out.symm, rfl⟩
 ·have HR : Hid (bW v a b = false) := by show _ = _; unfold bW; simp [h]
  go_enter Tryz.func212, Tryz.ntmps212
  go_wp2
  go_ret
  exact ⟨ah HR.out.symm, rfl⟩
def fJ (k : Nat) : Nat := if k = 3 then 12 else if k = 4 then 40 else if k = 5 then 4 else 6
theorem dp (k : Nat) (h0 : 1 <= k) (h : k <= 5) (w : World) : Calls Tryz.prog 196 #[iV k] w fun e w' => e = .returned (iV (fJ k)) /\ w = w' := by
 rcases (by omega : k = 1 ∨ k = 2 ∨ k = 3 ∨ k = 4 ∨ k = 5) with rfl | rfl | rfl | rfl | rfl
 all_goals
  go_enter Tryz.func196, Tryz.ntmps196
  go_wp2
  go_ret
  exact ⟨rfl, rfl⟩
theorem kX (x : UInt8) (w : World) : Calls Tryz.prog 209 #[bV x] w fun e w' => e = .returned (.bool (dj x)) /\ w = w' := by
 by_cases h : 48 <= x.toNat
 ·have HR : Hid (dj x = decide ((x.toNat : Int) <= 57)) := by show _ = _; unfold dj; simp [h]; omega
  have h1 : (48 : Int) <= (x.toNat : Int) := by omega
  go_enter Tryz.func209, Tryz.ntmps209
  go_wp2
  go_ret
  exact ⟨ah HR.out.symm, rfl⟩
 ·have HR : Hid (dj x = false) := by show _ = _; unfold dj; simp [h]
  have h1 : ¬ (48 : Int) <= (x.toNat : Int) := by omega
  go_enter Tryz.func209, Tryz.ntmps209
  go_wp2
  go_ret
  exact ⟨ah HR.out.symm, rfl⟩
theorem jS {P : Program} (t : TypeId) (h : P.underlying t = some .string) (s : List UInt8) (k : Nat) (x : UInt8) (hx : s[k]? = some x) (W : World) :
  (Instr.index t (sV s) (iV k)).run P W = .ok (bV x) W := by
 obtain ⟨hk, rfl⟩ := aE.1 hx
 have h2 : (0 : Int) <= (k : Int) /\ (k : Int) < (((⟨s.toArray⟩ : ByteArray).size : Nat) : Int) := ⟨by omega, by simp [ByteArray.size]; omega⟩
 rw [run_index_string W t ⟨s.toArray⟩ .i64 k h, dif_pos h2]
 rfl
theorem tJ (s : List UInt8) (w : World) (hs : s.length <= maxLen) :
  Calls Tryz.prog 214 #[sV s] w fun e w' => e = .returned (.bool (cC s)) /\ Below w.heap.size w w' := by
 unfold maxLen at hs
 by_cases h1 : 1 <= s.length
 case neg =>
  have i1 : (s.length : Int) < 1 := by omega
  have HR : Hid (cC s = false) := by show _ = _; unfold cC; simp only [h1]; rfl
  go_enter Tryz.func214, Tryz.ntmps214
  go_wp2
  go_ret
  exact ⟨ah HR.out.symm, aJ _ _⟩
 by_cases h2 : s.length <= 8
 case neg =>
  have i1 : ¬ (s.length : Int) < 1 := by omega
  have i2 : (8 : Int) < (s.length : Int) := by omega
  have HR : Hid (cC s = false) := by show _ = _; unfold cC; simp only [h2]; simp
  go_enter Tryz.func214, Tryz.ntmps214
  go_wp2
  go_ret
  exact ⟨ah HR.out.symm, aJ _ _⟩
 have i1 : ¬ (s.length : Int) < 1 := by omega
 have i2 : ¬ (8 : Int) < (s.length : Int) := by omega
 have HR : Hid (cC s = s.all dQ) := by show _ = _; unfold cC; simp only [h1, h2]; simp
 go_enter Tryz.func214, Tryz.ntmps214
 go_wp2
 go_loopw [3] (fun i wr => ∃ k q : Nat, k <= s.length /\ i = iV k /\ wr = w.drewN q /\ Hid (∀ j x, j < k -> s[j]? = some x -> dQ x = true)) (fun i _ => s.length + 1 - (intOf i).toNat)
 case atStart => exact ⟨0, 0, by omega, rfl, rfl, fun j x h => by omega⟩
 case round =>
  obtain ⟨k, q, hk, rfl, rfl, HQ⟩ := hrel
  have m0 : (0 : Int) <= (k : Int) := by omega
  by_cases hlt : k < s.length
  ·have m1 : (k : Int) < (s.length : Int) := by omega
   have hl : s[k]? = some s[k] := aD _
   generalize s[k] = x at hl
   have hrun : ∀ W : World, (Instr.index 9 (sV s) (iV k)).run Tryz.prog W = .ok (bV x) W := jS _ Tryz.underlying9 s k x hl
   have HL := aB hl; clear hl
   have HNO : Hid (dQ x = false -> cC s = false) := fun h => by
    rw [HR.out, Bool.eq_false_iff]
    intro h2
    have := List.all_eq_true.1 h2 x (aF HL.out)
    rw [h] at this
    cases this
   have HYES : Hid (dQ x = true -> ∀ j y, j < k + 1 -> s[j]? = some y -> dQ y = true) := fun hy j y hj hjy => by
    rcases Nat.lt_or_ge j k with h | h
    ·exact HQ.out j y h hjy
    ·obtain rfl : j = k := by omega
     rw [HL.out] at hjy
     cases hjy
     exact hy
   have hx := x.toNat_lt
   by_cases hC : 65 <= x.toNat /\ x.toNat <= 90
   ·have c1 : ¬ (x.toNat : Int) < 65 := by omega
    have c2 : ¬ (90 : Int) < (x.toNat : Int) := by omega
    have HC : Hid (dQ x = true) := by show _ = _; unfold dQ; simp [hC.1, hC.2]
    go_wp2
    go_roundw
    case rel => exact ⟨k + 1, _, by omega, by go_num, rfl, HYES.out HC.out⟩
    case measure => simp [intOf]; omega
   ·have HD : Hid (dQ x = dj x) := by
     show _ = _; unfold dQ
     rcases Nat.lt_or_ge x.toNat 65 with h | h
     ·have : ¬ 65 <= x.toNat := by omega
      simp [this]
     ·have : ¬ x.toNat <= 90 := by omega
      simp [this]
    by_cases h65 : 65 <= x.toNat
    ·have c1 : ¬ (x.toNat : Int) < 65 := by omega
     have c2 : (90 : Int) < (x.toNat : Int) := by omega
     clear h65 hC
     go_wp2_with fail
     refine (kX _ _).mono ?_
     rintro e w2 ⟨rfl, rfl⟩
     cases hd : dj x
     ·have HC : Hid (cC s = false) := HNO.out (by rw [HD.out, hd])
      go_wp2
      go_ret
      exact ⟨ah HC.out.symm, ai (aJ _ _) _⟩
     ·have HC : Hid (dQ x = true) := by show _ = _; rw [HD.out, hd]
      go_wp2
      go_roundw
      case rel => exact ⟨k + 1, _, by omega, by go_num, rfl, HYES.out HC.out⟩
      case measure => simp [intOf]; omega
    ·have c1 : (x.toNat : Int) < 65 := by omega
     clear h65 hC
     go_wp2_with fail
     refine (kX _ _).mono ?_
     rintro e w2 ⟨rfl, rfl⟩
     cases hd : dj x
     ·have HC : Hid (cC s = false) := HNO.out (by rw [HD.out, hd])
      go_wp2
      go_ret
      exact ⟨ah HC.out.symm, ai (aJ _ _) _⟩
     ·have HC : Hid (dQ x = true) := by show _ = _; rw [HD.out, hd]
      go_wp2
      go_roundw
      case rel => exact ⟨k + 1, _, by omega, by go_num, rfl, HYES.out HC.out⟩
      case measure => simp [intOf]; omega
  ·have m1 : ¬ (k : Int) < (s.length : Int) := by omega
   have HC : Hid (cC s = true) := by
    show _ = _
    rw [HR.out, List.all_eq_true]
    intro x hx
    obtain ⟨j, hj, hjx⟩ := List.mem_iff_getElem.1 hx
    exact HQ.out j x (by omega) (by rw [aD hj, hjx])
   go_wp2
   go_ret
   exact ⟨ah HC.out.symm, ai (aJ _ _) _⟩
def KeysR (w : World) (e : Ending) (w' : World) : Prop := ∃ A c, e = .returned (.slice A 17 c) /\ Rd w' A (kwL.map sV) /\ Below w.heap.size w w'
theorem vW (w : World) : Calls Tryz.prog 213 #[] w (KeysR w) := by
 go_enter Tryz.func213, Tryz.ntmps213
 go_wp2_with (refine wpList_buildSliceTo (by rfl) 23 9 17 _ (by rfl) w.heap.size rfl _ (by rfl) Tryz.underlying23 kwA (by kernel_rfl) ?_)
 go_ret
 exact ⟨_, _, rfl, Rd.new _ _ _, ba _ _⟩
theorem key_any (s : List UInt8) (w : World) (_hs : s.length <= maxLen) :
  Calls Tryz.prog 208 #[sV s] w fun e w' => e = .returned (.bool (decide (s ∈ kwL))) /\ Below w.heap.size w w' := by
 go_enter Tryz.func208, Tryz.ntmps208
 go_wp2_with fail
 refine (vW _).mono ?_
 rintro e w2 ⟨A, c, rfl, hr, hb⟩
 have HRD := aB hr; clear hr
 have HB := aB hb; clear hb
 go_wp2_with fail
 go_loopw [4] (fun i wr => ∃ k q : Nat, k <= 17 /\ i = iV k /\ wr = w2.drewN q /\ Hid (∀ j x, j < k -> kwL[j]? = some x -> x ≠ s)) (fun i _ => 18 - (intOf i).toNat)
 case atStart => exact ⟨0, 0, by omega, rfl, rfl, fun j x h => by omega⟩
 case round =>
  obtain ⟨k, q, hk, rfl, rfl, HQ⟩ := hrel
  have m0 : (0 : Int) <= (k : Int) := by omega
  by_cases hlt : k < 17
  ·have m1 : (k : Int) < 17 := by omega
   obtain ⟨x, hx⟩ : ∃ x, kwL[k]? = some x := ⟨kwL[k]'(by rw [mE]; exact hlt), aD _⟩
   obtain ⟨rb, ro, hrA, -, hrc⟩ := HRD.out.get (i := k) (by rw [List.length_map, mE]; exact hlt)
   have x2 : w2.cell? (aV rb (ro + k)) = some (sV x) := hrc k _ (by simp [hx])
   have HX := aB hx; clear hx hrc
   subst hrA
   cases hsx : x == s
   ·have HN : Hid (∀ j y, j < k + 1 -> kwL[j]? = some y -> y ≠ s) := fun j z hj hz => by
     rcases Nat.lt_or_ge j k with h | h
     ·exact HQ.out j z h hz
     ·obtain rfl : j = k := by omega
      rw [HX.out] at hz
      cases hz
      simpa using hsx
    go_wp2_with fail
    go_roundw
    case rel => exact ⟨k + 1, _, by omega, by go_num, rfl, HN.out⟩
    case measure => simp [intOf]; omega
   ·have HF : Hid (decide (s ∈ kwL) = true) := by
     show _ = _
     have h1 : x = s := by simpa using hsx
     have h2 : s ∈ kwL := h1 ▸ aF HX.out
     simp [h2]
    go_wp2_with fail
    go_ret
    exact ⟨ah HF.out.symm, ai HB.out _⟩
  ·have m1 : ¬ (k : Int) < 17 := by omega
   have HF : Hid (decide (s ∈ kwL) = false) := by
    show _ = _
    have : s ∉ kwL := fun h => by
     obtain ⟨j, hj, hjx⟩ := List.mem_iff_getElem.1 h
     exact HQ.out j s (by rw [mE] at hj; omega) (by rw [aD hj, hjx]) rfl
    simp [this]
   go_wp2_with fail
   go_ret
   exact ⟨ah HF.out.symm, ai HB.out _⟩
theorem tG (s : List UInt8) (w : World) (hs : s.length <= maxLen) :
  Calls Tryz.prog 204 #[sV s] w fun e w' => e = .returned (.bool (bI s)) /\ Below w.heap.size w w' := by
 unfold maxLen at hs
 have HS := aB hs
 cases s with
 | nil =>
  go_enter Tryz.func204, Tryz.ntmps204
  go_wp2
  go_ret
  exact ⟨rfl, aJ _ _⟩
 | cons y t =>
  have hz : (y :: t)[0]? = some y := rfl
  have hr0 : ∀ W : World, (Instr.index 9 (sV (y :: t)) (iV 0)).run Tryz.prog W = .ok (bV y) W := jS _ Tryz.underlying9 (y :: t) 0 y hz
  clear hz
  by_cases h2 : t.length <= 15
  case neg =>
   have i1 : ¬ (((y :: t).length : Int) < 1) := by simp; omega
   have i2 : (16 : Int) < ((y :: t).length : Int) := by simp; omega
   have HR : Hid (bI (y :: t) = false) := by show _ = _; unfold bI; simp only [h2]; simp
   generalize y :: t = s at *
   go_enter Tryz.func204, Tryz.ntmps204
   go_wp2
   go_ret
   exact ⟨ah HR.out.symm, aJ _ _⟩
  have i1 : ¬ (((y :: t).length : Int) < 1) := by simp; omega
  have i2 : ¬ (16 : Int) < ((y :: t).length : Int) := by simp; omega
  have hs' : (y :: t).length <= 16 := by simp; omega
  by_cases hy : 97 <= y.toNat
  case neg =>
   have c1 : (y.toNat : Int) < 97 := by omega
   have HR : Hid (bI (y :: t) = false) := by show _ = _; unfold bI eL; simp [hy]
   generalize y :: t = s at *
   go_enter Tryz.func204, Tryz.ntmps204
   go_wp2
   go_ret
   exact ⟨ah HR.out.symm, aJ _ _⟩
  have c1 : ¬ (y.toNat : Int) < 97 := by omega
  by_cases hy2 : y.toNat <= 122
  case neg =>
   have c2 : (122 : Int) < (y.toNat : Int) := by omega
   have HR : Hid (bI (y :: t) = false) := by show _ = _; unfold bI eL; simp [hy2]
   generalize y :: t = s at *
   go_enter Tryz.func204, Tryz.ntmps204
   go_wp2
   go_ret
   exact ⟨ah HR.out.symm, aJ _ _⟩
  have c2 : ¬ (122 : Int) < (y.toNat : Int) := by omega
  have HR : Hid (bI (y :: t) = ((y :: t).all da && !decide ((y :: t) ∈ kwL))) := by show _ = _; unfold bI eL; simp only [h2, hy, hy2]; simp
  clear h2 hy hy2
  generalize y :: t = s at *
  go_enter Tryz.func204, Tryz.ntmps204
  go_wp2_with fail
  refine (key_any s _ HS.out).mono ?_
  rintro e w2 ⟨rfl, hb⟩
  have HB := aB hb; clear hb
  clear hr0 c1 c2 i1 i2
  cases hkw : decide (s ∈ kwL)
  case true =>
   have HF : Hid (bI s = false) := by show _ = _; rw [HR.out, hkw]; simp
   go_wp2_with fail
   go_ret
   exact ⟨ah HF.out.symm, HB.out⟩
  have HC : Hid (bI s = s.all da) := by show _ = _; rw [HR.out, hkw]; simp
  clear HR hkw
  go_wp2_with fail
  go_loopw [3] (fun i wr => ∃ k q : Nat, k <= s.length /\ i = iV k /\ wr = w2.drewN q /\ Hid (∀ j x, j < k -> s[j]? = some x -> da x = true)) (fun i _ => s.length + 1 - (intOf i).toNat)
  case atStart => exact ⟨0, 0, by omega, rfl, rfl, fun j x h => by omega⟩
  case round =>
   obtain ⟨k, q, hk, rfl, rfl, HQ⟩ := hrel
   have m0 : (0 : Int) <= (k : Int) := by omega
   by_cases hlt : k < s.length
   ·have m1 : (k : Int) < (s.length : Int) := by omega
    have hl : s[k]? = some s[k] := aD _
    generalize s[k] = x at hl
    have hrun : ∀ W : World, (Instr.index 9 (sV s) (iV k)).run Tryz.prog W = .ok (bV x) W := jS _ Tryz.underlying9 s k x hl
    have HL := aB hl; clear hl
    have HNO : Hid (da x = false -> bI s = false) := fun h => by
     rw [HC.out, Bool.eq_false_iff]
     intro h2
     have := List.all_eq_true.1 h2 x (aF HL.out)
     rw [h] at this
     cases this
    have HYES : Hid (da x = true -> ∀ j y, j < k + 1 -> s[j]? = some y -> da y = true) := fun hy j y hj hjy => by
     rcases Nat.lt_or_ge j k with h | h
     ·exact HQ.out j y h hjy
     ·obtain rfl : j = k := by omega
      rw [HL.out] at hjy
      cases hjy
      exact hy
    have hx := x.toNat_lt
    by_cases hC : 97 <= x.toNat /\ x.toNat <= 122
    ·have c1 : ¬ (x.toNat : Int) < 97 := by omega
     have c2 : ¬ (122 : Int) < (x.toNat : Int) := by omega
     have HC : Hid (da x = true) := by show _ = _; unfold da eL; simp [hC.1, hC.2]
     go_wp2_with fail
     go_roundw
     case rel => exact ⟨k + 1, _, by omega, by go_num, rfl, HYES.out HC.out⟩
     case measure => simp [intOf]; omega
    have HD : Hid (da x = (dj x || decide (x.toNat = 95))) := by
     show _ = _; unfold da eL
     rcases Nat.lt_or_ge x.toNat 97 with h | h
     ·have : ¬ 97 <= x.toNat := by omega
      simp [this]
     ·have : ¬ x.toNat <= 122 := by omega
      simp [this]
    by_cases h97 : 97 <= x.toNat
    all_goals
     first
     | (have c1 : ¬ (x.toNat : Int) < 97 := by omega
        have c2 : (122 : Int) < (x.toNat : Int) := by omega)
     | (have c1 : (x.toNat : Int) < 97 := by omega)
     clear h97 hC
     go_wp2_with fail
     refine (kX _ _).mono ?_
     rintro e w3 ⟨rfl, rfl⟩
     cases hd : dj x
     case true =>
      have HC : Hid (da x = true) := by show _ = _; rw [HD.out, hd]; rfl
      go_wp2_with fail
      go_roundw
      case rel => exact ⟨k + 1, _, by omega, by go_num, rfl, HYES.out HC.out⟩
      case measure => simp [intOf]; omega
     by_cases h95 : x.toNat = 95
     ·have c3 : ((x.toNat : Int) != 95) = false := by simp; omega
      have c4 : ((x.toNat : Int) == 95) = true := by simp; omega
      have HC : Hid (da x = true) := by show _ = _; rw [HD.out, h95]; simp
      clear h95
      go_wp2_with fail
      go_roundw
      case rel => exact ⟨k + 1, _, by omega, by go_num, rfl, HYES.out HC.out⟩
      case measure => simp [intOf]; omega
     ·have c3 : ((x.toNat : Int) != 95) = true := by simp; omega
      have c4 : ((x.toNat : Int) == 95) = false := by simp; omega
      have HF : Hid (bI s = false) := HNO.out (by rw [HD.out, hd]; simp [h95])
      clear h95
      go_wp2_with fail
      go_ret
      exact ⟨ah HF.out.symm, ai HB.out _⟩
   ·have m1 : ¬ (k : Int) < (s.length : Int) := by omega
    have HF : Hid (bI s = true) := by
     show _ = _
     rw [HC.out, List.all_eq_true]
     intro x hx
     obtain ⟨j, hj, hjx⟩ := List.mem_iff_getElem.1 hx
     exact HQ.out j x (by omega) (by rw [aD hj, hjx])
    go_wp2_with fail
    go_ret
    exact ⟨ah HF.out.symm, ai HB.out _⟩
end Go.Proofs.YtpeaiphdkgifaaaGreatDoor
