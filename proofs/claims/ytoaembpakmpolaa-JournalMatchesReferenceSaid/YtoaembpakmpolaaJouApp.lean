/-
  The walks over journal.Append and journal.Records.
-/
import Derived.Test.YtoaembpakmpolaaJouCat
namespace Go.Proofs.Ytoaembpakmpolaa
open Go.RowKit Jou Go.Shelf
attribute [local go_sem] ba_get ba_extract ba_append Oper.semAt_some
namespace Jou
/-- The frame of a record. -/
def frame (b : List UInt8) : List UInt8 := lenB b.length ++ (lenB b.length).map (255 - ·) ++ csum b ++ b
theorem head_val (n : Nat) (h : n < 65536) : (lenB n ++ (lenB n).map (255 - ·)).map bV = [.int .u8 ((n : Int) / 256), .int .u8 ((n : Int) % 256), .int .u8 (255 - (n : Int) / 256), .int .u8 (255 - (n : Int) % 256)] := by
  have sub : ∀ y : UInt8, ((255 - y).toNat : Int) = 255 - (y.toNat : Int) := fun y => by
    have := UInt8.toNat_lt y
    rw [UInt8.toNat_sub_of_le _ _ (by rw [UInt8.le_iff_toNat_le]; show _ ≤ 255; omega)]
    show ((255 - y.toNat : Nat) : Int) = _
    omega
  have e1 : ((UInt8.ofNat (n / 256)).toNat : Int) = (n : Int) / 256 := by rw [UInt8.toNat_ofNat']; omega
  have e2 : ((UInt8.ofNat n).toNat : Int) = (n : Int) % 256 := by rw [UInt8.toNat_ofNat']; omega
  simp only [lenB, List.map_cons, List.map_nil, List.cons_append, List.nil_append, bV, sub, e1, e2]
/-- What Append answers. -/
def appendR (j b : List UInt8) : List UInt8 × Int :=
  if b.length < 1 ∨ 3000 < b.length then ([], 1) else if 500 ≤ (recs j).length then ([], 2) else (j.take (offs (recs j) (recs j).length) ++ frame b, 0)
end Jou
/-- A slice of bytes of the call's own, and an error. -/
def OwnE (w : World) (r : List UInt8 × Int) (e : Ending) (w' : World) : Prop :=
  ∃ A c, e = .returned (.tuple #[.slice A r.1.length c, iV r.2]) ∧ w'.ownsRow w.heap.size 5 1 (.slice A r.1.length c) r.1.length (r.1.map bV) ∧ Below w.heap.size w w'
/-- The two counters and the iterator's state. -/
def Cnt (w W : World) (n m : Nat) : Prop :=
  W.heap[w.heap.size]? = some (.cells #[iV n] 3 (0, 0)) ∧ W.heap[w.heap.size + 1]? = some (.cells #[iV m] 3 (0, 0)) ∧ Below w.heap.size w W
theorem Cnt.grown {w W W' : World} {n m r : Nat} (h : Cnt w W n m) (hg : W.grownBy W' (some r)) (hr : w.heap.size + 2 ≤ r) : Cnt w W' n m :=
  ⟨(hg.block _ (block_lt h.1) (by simp; omega)).trans h.1, (hg.block _ (block_lt h.2.1) (by simp; omega)).trans h.2.1, h.2.2.trans (below_of_g hg h.2.2.size (by omega))⟩
theorem Cnt.below {w W W' : World} {n m : Nat} (h : Cnt w W n m) (hb : Below W.heap.size W W') : Cnt w W' n m :=
  ⟨(hb.block _ (block_lt h.1)).trans h.1, (hb.block _ (block_lt h.2.1)).trans h.2.1, h.2.2.trans (hb.mono h.2.2.size)⟩
theorem Cnt.set0 {w W : World} {n m : Nat} (h : Cnt w W n m) (k : Nat) : Cnt w (W.setCell ⟨w.heap.size, 0, none⟩ (iV k)) k m :=
  ⟨row_set h.1 0 _, row_other h.2.1 (by omega) _ _, h.2.2.setCell (by simp) _⟩
theorem Cnt.set1 {w W : World} {n m : Nat} (h : Cnt w W n m) (k : Nat) : Cnt w (W.setCell ⟨w.heap.size + 1, 0, none⟩ (iV k)) n k :=
  ⟨row_other h.1 (by omega) _ _, row_set h.2.1 0 _, h.2.2.setCell (by simp) _⟩
theorem below_put {n : Nat} {w W : World} (h : Below n w W) {D : Nat} (hD : n ≤ D) (o : Obj) : Below n w (W.putObj D o) :=
  ⟨h.os, h.tape, h.output, by simp; exact h.size, fun i hi => (World.putObj_heap_other (by omega)).trans (h.block i hi)⟩
set_option maxHeartbeats 4000000 in
set_option maxRecDepth 100000 in
theorem append_any (j b : List UInt8) (A B : Option Addr) (c d : Nat) (w : World) (hA : Rd w A (j.map bV)) (hAl : Low w.heap.size A) (hB : Rd w B (b.map bV)) (hBl : Low w.heap.size B) (hc : j.length ≤ c) (hm : c ≤ maxLen) (hj : j.length ≤ 90000) (hb : b.length ≤ maxLen) :
    Calls Try.prog 14 #[.slice A j.length c, .slice B b.length d] w (OwnE w (appendR j b)) := by
  have HA := Lib.hid hA; clear hA
  have HAL := Lib.hid hAl; clear hAl
  have HB := Lib.hid hB; clear hB
  have HBL := Lib.hid hBl; clear hBl
  have HC := Lib.hid hc
  have HM := Lib.hid hm
  unfold maxLen at hm hb
  by_cases hbl : b.length < 1 ∨ 3000 < b.length
  · have hN : Hid (OwnE w (appendR j b) (.returned (.tuple #[.slice none 0 0, iV 1])) w) := by
      show OwnE _ _ _ _
      unfold appendR
      rw [if_pos hbl]
      exact ⟨none, 0, rfl, World.ownsRow_nil _ _ _ _, Below.refl _ _⟩
    rcases hbl with h | h
    all_goals
      refine calls_of_marks Try.func14 rfl ?_
      simp only [Try.ntmps14, List.size_toArray, List.length_cons, List.length_nil, Nat.reduceAdd, Nat.reduceSub, Array.replicate_succ, Array.replicate_zero, List.push_toArray, List.append_toArray, List.nil_append, List.cons_append]
      go_wp2
      exact ⟨_, by simp [results, Try.results14], hN.out⟩
  obtain ⟨hb1, hb2⟩ : 1 ≤ b.length ∧ b.length ≤ 3000 := by omega
  have hb1' : ¬ (b.length : Int) < 1 := by omega
  have hb2' : ¬ (3000 : Int) < (b.length : Int) := by omega
  have HBN := Lib.hid hbl; clear hbl
  have hm0 := recs_le j
  have hW : Hid (Cnt w (((w.alloc (.cells #[iV 0] 3)).alloc (.cells #[iV 0] 3)).alloc (.cells #[.slice A j.length c] 38)) 0 0) := by
    have h1 := heap_alloc_new (w.alloc (.cells #[iV 0] 3)) (.cells #[iV 0] 3)
    rw [World.size_alloc] at h1
    exact ⟨(Below.heap_alloc _ _ _ (by simp; omega)).trans ((Below.heap_alloc _ _ _ (by simp)).trans (heap_alloc_new _ _)), (Below.heap_alloc _ _ _ (by simp)).trans h1, (((Below.refl _ w).alloc (Nat.le_refl _) _).alloc (by simp) _).alloc (by simp; omega) _⟩
  have hQ : Hid ((((w.alloc (.cells #[iV 0] 3)).alloc (.cells #[iV 0] 3)).alloc (.cells #[.slice A j.length c] 38)).heap[w.heap.size + 2]? = some (.cells #[.slice A j.length c] 38 (0, 0))) := by
    have h1 := heap_alloc_new ((w.alloc (.cells #[iV 0] 3)).alloc (.cells #[iV 0] 3)) (.cells #[.slice A j.length c] 38)
    simp only [World.size_alloc] at h1
    exact h1
  refine calls_of_marks Try.func14 rfl ?_
  simp only [Try.ntmps14, List.size_toArray, List.length_cons, List.length_nil, Nat.reduceAdd, Nat.reduceSub, Array.replicate_succ, Array.replicate_zero, List.push_toArray, List.append_toArray, List.nil_append, List.cons_append]
  go_wp2_with (go_at_call 36; refine (frames_any _ _ _ _).mono ?_; rintro e w' ⟨rfl, rfl⟩)
  refine wp_seq (gf := 64) (lb := #[.pointer (some ⟨w.heap.size + 2, 0, none⟩)]) rfl (enters_of Try.func64 (by kernel_rfl) rfl)
    (frames_seq j A c (w.heap.size + 2) _ (HA.out.below hW.out.2.2) (HAL.out.mono (by omega)) HC.out HM.out hQ.out) (block_lt hQ.out) ?_ (fun k => rfl) (fun k W => Cnt w W k (offs (recs j) k)) ?_ ?_ ?a1 ?assign ?body ?done
  case assign =>
    intro l k W K hK
    gi_wp2
    exact hK
  · intro x hx
    simp only [World.size_alloc]
    rcases List.mem_cons.1 hx with rfl | hx
    · omega
    · cases A with
      | none => simp at hx
      | some a => simp at hx; have := HAL.out a rfl; omega
  · intro k W W' r h hg hr
    refine h.grown hg ?_
    simp only [World.size_alloc] at hr
    omega
  · have := hW.out; rw [offs_zero]; exact this
  case body =>
    intro l k W hk hI hsz
    have HI := Lib.hid hI
    have n0 : W.cell? ⟨w.heap.size, 0, none⟩ = some (iV k) := cell_of_row _ _ 0 _ _ _ hI.1
    have n1 : W.frozen? ⟨w.heap.size, 0, none⟩ = false := frozen_row hI.1 0
    have n2 : W.cell? ⟨w.heap.size + 1, 0, none⟩ = some (iV (offs (recs j) k)) := cell_of_row _ _ 0 _ _ _ hI.2.1
    have n3 : W.frozen? ⟨w.heap.size + 1, 0, none⟩ = false := frozen_row hI.2.1 0
    clear hI
    have hrv : recV j A c k = .slice (A.map fun x => x.add (offs (recs j) k + 8)) (recs j)[k].length (c - (offs (recs j) k + 8)) := by rw [recV, List.getElem?_eq_getElem hk]; rfl
    rw [hrv]
    clear hrv
    have ho := offs_succ (recs j) k hk
    have hle := offs_le j (k + 1) hk
    rw [ho] at hle
    have HO := Lib.hid ho; clear ho
    obtain ⟨n, hn⟩ : ∃ n, n = (recs j)[k].length := ⟨_, rfl⟩
    obtain ⟨o, hoo⟩ : ∃ o, o = offs (recs j) k := ⟨_, rfl⟩
    rw [← hn, ← hoo] at HO hle ⊢
    rw [← hoo] at n2 HI
    clear hn hoo
    gi_wp2
    have e1 : Value.int .i64 ((k : Int) + 1) = iV ((k + 1 : Nat) : Int) := by go_num
    have e2 : Value.int .i64 ((o : Int) + (8 + (n : Int))) = iV ((o + (8 + n) : Nat) : Int) := by go_num
    rw [e1, e2, HO.out]
    refine ⟨by simp [World.setCell], ?_, (HI.out.set0 (k + 1)).set1 (o + (8 + n))⟩
    intro x hx
    simp only [World.size_alloc] at hx
    have hx' : x ≠ w.heap.size ∧ x ≠ w.heap.size + 1 := by
      simp only [List.mem_cons] at hx
      rcases hx with rfl | rfl | rfl | hx
      · omega
      · omega
      · omega
      · cases A with
        | none => simp at hx
        | some a => simp at hx; have := HAL.out a rfl; omega
    exact (Below.heap_setCell _ _ _ _ (by show x ≠ _; exact hx'.2)).trans (Below.heap_setCell _ _ _ _ (by show x ≠ _; exact hx'.1))
  case done =>
    intro W hI hD
    have hDs : w.heap.size + 3 = (((w.alloc (.cells #[iV 0] 3)).alloc (.cells #[iV 0] 3)).alloc (.cells #[.slice A j.length c] 38)).heap.size := by simp
    rw [← hDs] at hD ⊢
    clear hDs
    have HI := Lib.hid hI
    have HD := Lib.hid hD; clear hD
    have n0 : W.cell? ⟨w.heap.size, 0, none⟩ = some (iV (recs j).length) := cell_of_row _ _ 0 _ _ _ hI.1
    have n2 : W.cell? ⟨w.heap.size + 1, 0, none⟩ = some (iV (offs (recs j) (recs j).length)) := cell_of_row _ _ 0 _ _ _ hI.2.1
    clear hI
    by_cases h5 : 500 ≤ (recs j).length
    · have h5' : (500 : Int) ≤ ((recs j).length : Int) := by omega
      go_wp2
      refine ⟨by simp, .inl ⟨_, _, rfl, run_takeDeferred HD.out, ?_⟩⟩
      refine ⟨_, by simp [results, Try.results14]; rfl, ?_⟩
      unfold appendR
      rw [if_neg HBN.out, if_pos h5]
      exact ⟨none, 0, rfl, World.ownsRow_nil _ _ _ _, below_put HI.out.2.2 (by omega) _⟩
    · have h5' : ¬ (500 : Int) ≤ ((recs j).length : Int) := by omega
      have hof := offs_le j _ (Nat.le_refl _)
      obtain ⟨o, ho⟩ : ∃ o, o = offs (recs j) (recs j).length := ⟨_, rfl⟩
      have HF : Hid (appendR j b = (j.take o ++ frame b, 0)) := by show _ = _; unfold appendR; rw [if_neg HBN.out, if_neg h5, ho]
      rw [← ho] at n2 hof HI
      clear ho
      obtain ⟨s0, s1, s2, s3, hs⟩ : ∃ s0 s1 s2 s3, csum b = [s0, s1, s2, s3] := ⟨_, _, _, _, rfl⟩
      have CS : Hid (∀ W', Below W.heap.size W W' → Calls Try.prog 37 #[.slice B b.length d] W' fun e w' => e = .returned (.agg #[bV s0, bV s1, bV s2, bV s3]) ∧ Below W'.heap.size W' w') := fun W' hb' => by
        have := checksum_any b B d W' ((HB.out.below HI.out.2.2).below hb') hb2
        rw [hs] at this
        exact this
      have HS := Lib.hid hs; clear hs
      have g1 : (o : Int) ≤ (j.length : Int) := by omega
      have g2 : (o : Int) ≤ (c : Int) := by omega
      go_wp2_with (go_at_call 37; refine (CS.out _ (Below.refl _ _)).mono ?_; rintro e w1 ⟨rfl, hbt⟩; have HBT := Lib.hid hbt; clear hbt)
      obtain ⟨W4, hW4⟩ : ∃ W4, ((w1.alloc (.cells #[bV s0, bV s1, bV s2, bV s3] 80)).alloc (.cells #[.int .u8 ((b.length : Int) / 256), .int .u8 ((b.length : Int) % 256), .int .u8 (255 - (b.length : Int) / 256), .int .u8 (255 - (b.length : Int) % 256)] 5)) = W4 := ⟨_, rfl⟩
      rw [hW4]
      have hz1 : Hid (w.heap.size + 4 ≤ w1.heap.size) := by
        have h1 := HBT.out.size
        have h2 := block_lt HD.out
        show _ ≤ _
        omega
      have hb4 : Hid (Below W.heap.size W W4) := by rw [← hW4]; exact (HBT.out.alloc HBT.out.size _).alloc (by simp; have := HBT.out.size; omega) _
      have r1 : Hid (W4.heap[w1.heap.size]? = some (.cells #[bV s0, bV s1, bV s2, bV s3] 80 (0, 0))) := by rw [← hW4]; exact (Below.heap_alloc _ _ _ (by simp)).trans (heap_alloc_new _ _)
      have r2 : Hid (W4.heap[w1.heap.size + 1]? = some (.cells #[.int .u8 ((b.length : Int) / 256), .int .u8 ((b.length : Int) % 256), .int .u8 (255 - (b.length : Int) / 256), .int .u8 (255 - (b.length : Int) % 256)] 5 (0, 0))) := by
        rw [← hW4]
        have := heap_alloc_new (w1.alloc (.cells #[bV s0, bV s1, bV s2, bV s3] 80)) (.cells #[.int .u8 ((b.length : Int) / 256), .int .u8 ((b.length : Int) % 256), .int .u8 (255 - (b.length : Int) / 256), .int .u8 (255 - (b.length : Int) % 256)] 5)
        rwa [World.size_alloc] at this
      have n4 : W4.cell? ⟨w.heap.size + 1, 0, none⟩ = some (iV o) := cell_of_row _ _ 0 _ _ _ ((HI.out.below hb4.out).2.1)
      clear hW4 n0 n2
      have CC : Hid (∀ W5, Below W4.heap.size W4 W5 → W5.heap[W4.heap.size]? = some (.cells #[.slice A o c, .slice (some ⟨w1.heap.size + 1, 0, none⟩) 4 4, .slice (some ⟨w1.heap.size, 0, none⟩) 4 4, .slice B b.length d] 38 (0, 0)) →
          Calls Try.prog 38 #[.slice (some ⟨W4.heap.size, 0, none⟩) 4 4] W5 fun e w' => ∃ A' c', e = .returned (.slice A' (j.take o ++ frame b).length c') ∧ w'.ownsRow W5.heap.size 5 1 (.slice A' (j.take o ++ frame b).length c') (j.take o ++ frame b).length ((j.take o ++ frame b).map bV) ∧ Below W5.heap.size W5 w') := by
        intro W5 h5 hg
        have hwW5 : Below w.heap.size w W5 := (HI.out.2.2.trans (hb4.out.mono HI.out.2.2.size)).trans (h5.mono (by have := HI.out.2.2.size; have := hb4.out.size; omega))
        have hz4 := hb4.out.size
        have hz5 := HBT.out.size
        have hz6 := h5.size
        have hlow : ∀ {X : Option Addr}, Low w.heap.size X → Low W5.heap.size X := fun hX => hX.mono hwW5.size
        have := concat_any [(A, c, j.take o), (some ⟨w1.heap.size + 1, 0, none⟩, 4, lenB b.length ++ (lenB b.length).map (255 - ·)), (some ⟨w1.heap.size, 0, none⟩, 4, csum b), (B, d, b)] W4.heap.size 0 4 W5 (.inr ⟨_, _, rfl, block_lt hg, fun i u hu => ?_⟩) ?_ ?_ ?_ (by simp)
        · have e : flat [(A, c, j.take o), (some ⟨w1.heap.size + 1, 0, none⟩, 4, lenB b.length ++ (lenB b.length).map (255 - ·)), (some ⟨w1.heap.size, 0, none⟩, 4, csum b), (B, d, b)] = j.take o ++ frame b := by
            simp [flat, frame]
          rw [e] at this
          exact this
        · rw [Nat.zero_add, cell_of_row _ _ i _ _ _ hg, ← hu, HS.out]
          have eo : (j.take o).length = o := by rw [List.length_take]; omega
          simp only [slV, List.map_cons, List.map_nil, eo, List.getElem?_toArray]
          rfl
        · intro r hr
          simp only [List.mem_cons, List.not_mem_nil, or_false] at hr
          rcases hr with rfl | rfl | rfl | rfl
          · refine ⟨?_, hlow HAL.out⟩
            rw [List.map_take]
            exact ((HA.out.below hwW5)).take o
          · refine ⟨.inr ⟨_, _, rfl, by have := block_lt r2.out; omega, fun i u hu => ?_⟩, fun a ha => by cases ha; have := block_lt r2.out; show w1.heap.size + 1 < _; omega⟩
            rw [Nat.zero_add, h5.cell (p := ⟨w1.heap.size + 1, i, none⟩) (block_lt r2.out), cell_of_row _ _ i _ _ _ r2.out, ← hu, head_val b.length (by omega), List.getElem?_toArray]
          · refine ⟨.inr ⟨_, _, rfl, by have := block_lt r1.out; omega, fun i u hu => ?_⟩, fun a ha => by cases ha; have := block_lt r1.out; show w1.heap.size < _; omega⟩
            rw [Nat.zero_add, h5.cell (p := ⟨w1.heap.size, i, none⟩) (block_lt r1.out), cell_of_row _ _ i _ _ _ r1.out, ← hu, HS.out, List.getElem?_toArray]
            rfl
          · exact ⟨HB.out.below hwW5, hlow HBL.out⟩
        · simp [flat]; omega
        · simp [flat, csum, lenB]; omega
      obtain ⟨L, hL⟩ : ∃ L, L = j.take o ++ frame b := ⟨_, rfl⟩
      rw [← hL] at HF CC
      clear hL
      go_still_tail 6, (by kernel_rfl)
      change wpList _ _ _ _ _ W4.drew
      go_wp2_with (go_at_call 38; refine (CC.out _ ?_ ?_).mono ?_; exact ((Below.refl _ W4).drew).alloc (by simp) _; exact heap_alloc_new _ _; rintro e w6 ⟨A6, c6, rfl, hown6, hb6⟩; have HO6 := Lib.hid hown6; have HB6 := Lib.hid hb6; clear hown6 hb6)
      have hb5 : Below W4.heap.size W4 w6 := (((Below.refl _ W4).drew).alloc (by simp) _).trans (HB6.out.mono (by simp))
      have hwW : Below W.heap.size W w6 := hb4.out.trans (hb5.mono hb4.out.size)
      have hD6 : w6.heap[w.heap.size + 3]? = some (.deferred (some [])) := (hwW.block _ (block_lt HD.out)).trans HD.out
      refine ⟨by simp, .inl ⟨_, _, rfl, run_takeDeferred hD6, ?_⟩⟩
      refine ⟨_, by simp [results, Try.results14]; rfl, ?_⟩
      rw [HF.out]
      have hww : Below w.heap.size w w6 := HI.out.2.2.trans (hwW.mono HI.out.2.2.size)
      refine ⟨A6, c6, rfl, ownsRow_putObj (own_base HO6.out ?_) _ hD6 rfl, below_put hww (by omega) _⟩
      have := HI.out.2.2.size
      have := hb4.out.size
      simp
      omega
end Go.Proofs.Ytoaembpakmpolaa
