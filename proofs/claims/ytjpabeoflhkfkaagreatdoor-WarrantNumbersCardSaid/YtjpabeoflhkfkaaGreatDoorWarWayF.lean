/-
  The walk over promise.Way once more: its stops lie in a new block. (Printed by gen_wayf.py.)
-/
import Derived.Test.YtjpabeoflhkfkaaGreatDoorPj
namespace Go.Proofs.YtjpabeoflhkfkaaGreatDoor
open Go.RowKit

def WayResF (w : World) (r : Int × List St) (e : Ending) (w' : World) : Prop :=
  Below w.heap.size w w' ∧ ∃ A c, e = .returned (.tuple #[.slice A r.2.length c, iV r.1]) ∧ Rd w' A (r.2.flatMap encSt) ∧ ∀ a, A = some a → w.heap.size ≤ a.block
theorem WayResF.bad {w W : World} (x : Int) {s y : Value} (h : Wd2 w W s y) : WayResF w (x, []) (.returned (.tuple #[.slice none 0 0, iV x])) W := ⟨h.1, none, 0, rfl, Rd.nil _ _, fun a ha => by cases ha⟩
set_option maxHeartbeats 8000000 in
set_option maxRecDepth 100000 in
theorem wayf_any (n : Net) (A : Option Addr) (c : Nat) (nx : List NsC) (o d t : Int) (w : World) (hn : NetIn w n) (hT : Tab w A nx) (hx : nx.length ≤ maxLen) (hk : KW w) :
    Calls Tryz.prog 15 #[netV n, .slice A nx.length c, iV o, iV d, iV t] w (WayResF w (wayTop n nx o d t)) := by
  have hmf : ∀ (fn : Fn) (first cap : Array Value) (w : World), (Instr.makeFunc fn first cap).run Tryz.prog w = .ok (.func fn first cap) w := fun _ _ _ _ => rfl
  have HD := Lib.hid (Wd2.new w n)
  have hx0 : (((w.alloc (netO n)).alloc (.cells #[.slice none 0 0] 49)).alloc (.cells #[iV 0] 44)).heap[w.heap.size]? = some (netO n) := (Below.heap_alloc _ _ _ (by simp; omega)).trans ((Below.heap_alloc _ _ _ (by simp)).trans (heap_alloc_new _ _))
  have HNP : Hid (NetP (((w.alloc (netO n)).alloc (.cells #[.slice none 0 0] 49)).alloc (.cells #[iV 0] 44)) w.heap.size n) := ⟨fun i v hv => (cell_of_row _ _ _ _ _ _ hx0).trans hv, hn.below HD.out.1⟩
  have HT := Lib.hid (hT.below HD.out.1)
  have HK := Lib.hid (hk.below HD.out.1)
  have hl := hn.lens.2.2.2.1
  have HLL := Lib.hid hn.lens
  have HX := Lib.hid hx
  unfold maxLen at hl
  have n3 : (((w.alloc (netO n)).alloc (.cells #[.slice none 0 0] 49)).alloc (.cells #[iV 0] 44)).cell? ⟨w.heap.size, 3, none⟩ = some (.slice n.offA n.offs.length n.offC) := HNP.out.box 3 _ rfl
  have hbad : ¬ (inB o n.offs.length = true ∧ inB d n.offs.length = true ∧ tOk t = true ∧ Sound n ∧ Formed n nx) → wayTop n nx o d t = (1, []) := fun h => if_neg h
  have HBAD := Lib.hid hbad; clear hbad
  clear hn hT hk hx0 hx
  cases h1 : inB o n.offs.length
  case false =>
    have H1 := Lib.hid h1; clear h1
    go_enter_defers Tryz.func15, Tryz.ntmps15
    go_wp2_with fail
    refine (inside_b _ _ _).mono ?_
    rintro e w' ⟨rfl, rfl⟩
    rw [H1.out]
    go_wp2_with fail
    refine (demand_no _).mono ?_
    rintro e w' ⟨rfl, rfl⟩
    refine leaves_cons (f := 40) (args := #[.pointer (some ⟨w.heap.size + 1, 0, none⟩), .pointer (some ⟨w.heap.size + 1 + 1, 0, none⟩)]) (by simp) (by simp [go_sem]) ?_
    refine (way_pan (w.heap.size + 1) (w.heap.size + 1 + 1) _ _ 1 _ _ (cell_of_row _ _ 0 _ _ _ HD.out.2.1) (frozen_row HD.out.2.1 0) (cell_of_row _ _ 0 _ _ _ HD.out.2.2) (frozen_row HD.out.2.2 0) (by omega)).mono ?_
    rintro e u' w'' ⟨rfl, rfl, rfl⟩
    exact ⟨_, ((HD.out.set1 (.slice none 0 0)).set2 (iV 1)).res _ rfl rfl, by rw [HBAD.out (by intro h; rw [H1.out] at h; cases h.1)]; exact WayResF.bad 1 ((HD.out.set1 (.slice none 0 0)).set2 (iV 1))⟩
  case true =>
  have H1 := Lib.hid h1; clear h1
  cases h2 : inB d n.offs.length
  case false =>
    have H2 := Lib.hid h2; clear h2
    go_enter_defers Tryz.func15, Tryz.ntmps15
    go_wp2_with fail
    refine (inside_b _ _ _).mono ?_
    rintro e w' ⟨rfl, rfl⟩
    rw [H1.out]
    go_wp2_with fail
    refine (inside_b _ _ _).mono ?_
    rintro e w' ⟨rfl, rfl⟩
    rw [H2.out]
    go_wp2_with fail
    refine (demand_no _).mono ?_
    rintro e w' ⟨rfl, rfl⟩
    refine leaves_cons (f := 40) (args := #[.pointer (some ⟨w.heap.size + 1, 0, none⟩), .pointer (some ⟨w.heap.size + 1 + 1, 0, none⟩)]) (by simp) (by simp [go_sem]) ?_
    refine (way_pan (w.heap.size + 1) (w.heap.size + 1 + 1) _ _ 1 _ _ (cell_of_row _ _ 0 _ _ _ HD.out.2.1) (frozen_row HD.out.2.1 0) (cell_of_row _ _ 0 _ _ _ HD.out.2.2) (frozen_row HD.out.2.2 0) (by omega)).mono ?_
    rintro e u' w'' ⟨rfl, rfl, rfl⟩
    exact ⟨_, ((HD.out.set1 (.slice none 0 0)).set2 (iV 1)).res _ rfl rfl, by rw [HBAD.out (by intro h; rw [H2.out] at h; cases h.2.1)]; exact WayResF.bad 1 ((HD.out.set1 (.slice none 0 0)).set2 (iV 1))⟩
  case true =>
  have H2 := Lib.hid h2; clear h2
  go_enter_defers Tryz.func15, Tryz.ntmps15
  go_wp2_with fail
  refine (inside_b _ _ _).mono ?_
  rintro e w' ⟨rfl, rfl⟩
  rw [H1.out]
  go_wp2_with fail
  refine (inside_b _ _ _).mono ?_
  rintro e w' ⟨rfl, rfl⟩
  rw [H2.out]
  go_wp2_with fail
  refine (intime_any _ _).mono ?_
  rintro e w' ⟨rfl, rfl⟩
  cases h3 : tOk t
  case false =>
    have H3 := Lib.hid h3; clear h3
    go_wp2_with fail
    refine (demand_no _).mono ?_
    rintro e w' ⟨rfl, rfl⟩
    refine leaves_cons (f := 40) (args := #[.pointer (some ⟨w.heap.size + 1, 0, none⟩), .pointer (some ⟨w.heap.size + 1 + 1, 0, none⟩)]) (by simp) (by simp [go_sem]) ?_
    refine (way_pan (w.heap.size + 1) (w.heap.size + 1 + 1) _ _ 1 _ _ (cell_of_row _ _ 0 _ _ _ HD.out.2.1) (frozen_row HD.out.2.1 0) (cell_of_row _ _ 0 _ _ _ HD.out.2.2) (frozen_row HD.out.2.2 0) (by omega)).mono ?_
    rintro e u' w'' ⟨rfl, rfl, rfl⟩
    exact ⟨_, ((HD.out.set1 (.slice none 0 0)).set2 (iV 1)).res _ rfl rfl, by rw [HBAD.out (by intro h; rw [H3.out] at h; cases h.2.2.1)]; exact WayResF.bad 1 ((HD.out.set1 (.slice none 0 0)).set2 (iV 1))⟩
  case true =>
  have H3 := Lib.hid h3; clear h3
  go_wp2_with fail
  refine (demand_yes _).mono ?_
  rintro e w' ⟨rfl, rfl⟩
  by_cases h4 : Sound n
  case neg =>
    have H4 := Lib.hid h4; clear h4
    go_wp2_with fail
    refine (sound_no _ n _ HNP.out HK.out H4.out).mono ?_
    rintro e w1 ⟨rfl, hb⟩
    have HD1 := Lib.hid (HD.out.below hb); clear hb
    go_wp2_with fail
    refine (demand_no _).mono ?_
    rintro e w' ⟨rfl, rfl⟩
    refine leaves_cons (f := 40) (args := #[.pointer (some ⟨w.heap.size + 1, 0, none⟩), .pointer (some ⟨w.heap.size + 1 + 1, 0, none⟩)]) (by simp) (by simp [go_sem]) ?_
    refine (way_pan (w.heap.size + 1) (w.heap.size + 1 + 1) _ _ 1 _ _ (cell_of_row _ _ 0 _ _ _ HD1.out.2.1) (frozen_row HD1.out.2.1 0) (cell_of_row _ _ 0 _ _ _ HD1.out.2.2) (frozen_row HD1.out.2.2 0) (by omega)).mono ?_
    rintro e u' w'' ⟨rfl, rfl, rfl⟩
    exact ⟨_, ((HD1.out.set1 (.slice none 0 0)).set2 (iV 1)).res _ rfl rfl, by rw [HBAD.out (by intro h; exact H4.out h.2.2.2.1)]; exact WayResF.bad 1 ((HD1.out.set1 (.slice none 0 0)).set2 (iV 1))⟩
  case pos =>
  have H4 := Lib.hid h4; clear h4
  go_wp2_with fail
  refine (sound_yes _ n _ HNP.out HK.out H4.out).mono ?_
  rintro e w1 ⟨rfl, hb⟩
  have HD1 := Lib.hid (HD.out.below hb)
  have HNP1 := Lib.hid (HNP.out.below hb)
  have HT1 := Lib.hid (HT.out.below hb)
  clear hb HD HNP HT n3
  go_wp2_with fail
  refine (formed_any _ n A c nx _ HNP1.out HT1.out HX.out HLL.out.2.2.2.1 HLL.out.2.2.2.2.1).mono ?_
  rintro e w2 ⟨rfl, hb⟩
  have HD2 := Lib.hid (HD1.out.below hb)
  have HNP2 := Lib.hid (HNP1.out.below hb)
  have HT2 := Lib.hid (HT1.out.below hb)
  clear hb HD1 HNP1 HT1
  cases h5 : formB n nx
  case false =>
    have H5 := Lib.hid h5; clear h5
    go_wp2_with fail
    refine (demand_no _).mono ?_
    rintro e w' ⟨rfl, rfl⟩
    refine leaves_cons (f := 40) (args := #[.pointer (some ⟨w.heap.size + 1, 0, none⟩), .pointer (some ⟨w.heap.size + 1 + 1, 0, none⟩)]) (by simp) (by simp [go_sem]) ?_
    refine (way_pan (w.heap.size + 1) (w.heap.size + 1 + 1) _ _ 1 _ _ (cell_of_row _ _ 0 _ _ _ HD2.out.2.1) (frozen_row HD2.out.2.1 0) (cell_of_row _ _ 0 _ _ _ HD2.out.2.2) (frozen_row HD2.out.2.2 0) (by omega)).mono ?_
    rintro e u' w'' ⟨rfl, rfl, rfl⟩
    exact ⟨_, ((HD2.out.set1 (.slice none 0 0)).set2 (iV 1)).res _ rfl rfl, by rw [HBAD.out (by intro h; rw [formB_true.2 h.2.2.2.2] at H5; cases H5.out)]; exact WayResF.bad 1 ((HD2.out.set1 (.slice none 0 0)).set2 (iV 1))⟩
  case true =>
  have H5 := Lib.hid (formB_true.1 h5); clear h5
  have HR : Hid (wayTop n nx o d t = wayR n nx d.toNat 19 o.toNat t) := if_pos ⟨H1.out, H2.out, H3.out, H4.out, H5.out⟩
  have ho := inB_iff.1 H1.out
  have hd := inB_iff.1 H2.out
  have ht := H3.out
  unfold tOk at ht
  simp only [Bool.and_eq_true, decide_eq_true_eq] at ht
  obtain ⟨o', rfl⟩ := Int.eq_ofNat_of_zero_le ho.1
  obtain ⟨d', rfl⟩ := Int.eq_ofNat_of_zero_le hd.1
  obtain ⟨ht1, ht2⟩ := ht
  have hoo : o' < n.offs.length := by omega
  have hdd : d' < n.offs.length := by omega
  clear ho hd
  go_wp2_with fail
  refine (demand_yes _).mono ?_
  rintro e w' ⟨rfl, rfl⟩
  go_wp2_with fail
  refine (walk_any _ n A c nx o' d' t _ HNP2.out HT2.out H4.out.1.good H5.out hoo hdd ht1 (by omega)).mono ?_
  rintro e w3 ⟨hb, hr⟩
  have hr' : wayR n nx d' 19 o' t = wayTop n nx o' d' t := HR.out.symm
  rw [hr'] at hr
  have HD3 := Lib.hid (HD2.out.below hb)
  have HSZ : Hid (w.heap.size + 1 + 1 < w2.heap.size) := block_lt HD2.out.2.2
  clear hb HD2 HNP2 HT2 hr'
  rcases hr with ⟨h0, A3, c3, rfl, ho3⟩ | ⟨hne, rfl⟩
  case inr =>
    have HNE := Lib.hid hne; clear hne
    refine leaves_cons (f := 40) (args := #[.pointer (some ⟨w.heap.size + 1, 0, none⟩), .pointer (some ⟨w.heap.size + 1 + 1, 0, none⟩)]) (by simp) (by simp [go_sem]) ?_
    refine (way_pan (w.heap.size + 1) (w.heap.size + 1 + 1) _ _ _ _ _ (cell_of_row _ _ 0 _ _ _ HD3.out.2.1) (frozen_row HD3.out.2.1 0) (cell_of_row _ _ 0 _ _ _ HD3.out.2.2) (frozen_row HD3.out.2.2 0) (by omega)).mono ?_
    rintro e u' w'' ⟨rfl, rfl, rfl⟩
    exact ⟨_, ((HD3.out.set1 (.slice none 0 0)).set2 (iV (wayTop n nx o' d' t).1)).res _ rfl rfl, by
      have h1 : wayTop n nx o' d' t = ((wayTop n nx o' d' t).1, []) := by
        have := wayR_nil n nx d' 19 o' t
        rw [show wayR n nx d' 19 o' t = wayTop n nx o' d' t from HR.out.symm] at this
        rw [← this HNE.out]
      have h2 := WayResF.bad (wayTop n nx o' d' t).1 ((HD3.out.set1 (.slice none 0 0)).set2 (iV (wayTop n nx o' d' t).1))
      rw [← h1] at h2
      exact h2⟩
  case inl =>
    have H0 := Lib.hid h0; clear h0
    have HO3 := Lib.hid ho3; clear ho3
    have hc1 : w3.cell? ⟨w.heap.size + 1, 0, none⟩ = some (.slice none 0 0) := cell_of_row _ _ 0 _ _ _ HD3.out.2.1
    have hf1 : w3.frozen? ⟨w.heap.size + 1, 0, none⟩ = false := frozen_row HD3.out.2.1 0
    have hc2 : (w3.setCell ⟨w.heap.size + 1, 0, none⟩ (.slice A3 (wayTop n nx o' d' t).2.length c3)).cell? ⟨w.heap.size + 1 + 1, 0, none⟩ = some (iV 0) := cell_of_row _ _ 0 _ _ _ (HD3.out.set1 _).2.2
    have hf2 : (w3.setCell ⟨w.heap.size + 1, 0, none⟩ (.slice A3 (wayTop n nx o' d' t).2.length c3)).frozen? ⟨w.heap.size + 1 + 1, 0, none⟩ = false := frozen_row (HD3.out.set1 _).2.2 0
    go_wp2_with fail
    refine leaves_cons (f := 40) (args := #[.pointer (some ⟨w.heap.size + 1, 0, none⟩), .pointer (some ⟨w.heap.size + 1 + 1, 0, none⟩)]) (by simp) (by simp [go_sem]) ?_
    refine (way_idle (w.heap.size + 1) (w.heap.size + 1 + 1) _).mono ?_
    rintro e u' w'' ⟨rfl, rfl, rfl⟩
    have hD4 := (HD3.out.set1 (.slice A3 (wayTop n nx o' d' t).2.length c3)).set2 (iV 0)
    refine ⟨_, hD4.res _ rfl rfl, hD4.1, A3, c3, by rw [H0.out], ?_, fun a ha => by have h1 := (HO3.out.lt _ (show Value.ownBlock (.slice A3 _ c3) = some a.block by rw [ha]; rfl)).1; have h2 := HSZ.out; omega⟩
    have hlt := HO3.out.lt
    exact rd_own ((HO3.out.kept (grown_set _ _ _ _) (.inr (fun e => by have := (hlt _ e).1; have := HSZ.out; omega))).kept (grown_set _ _ _ _) (.inr (fun e => by have := (hlt _ e).1; have := HSZ.out; omega)))
end Go.Proofs.YtjpabeoflhkfkaaGreatDoor
