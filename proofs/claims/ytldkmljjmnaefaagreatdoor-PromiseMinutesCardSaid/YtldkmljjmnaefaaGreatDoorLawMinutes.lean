/-
  The walk over PromiseMinutes. (Printed by gen_minutes.py.)
-/
import Derived.Test.YtldkmljjmnaefaaGreatDoorProLawFirst
namespace Go.Proofs.YtldkmljjmnaefaaGreatDoor
open Go.RowKit

theorem firstR_fix {c : Cal} {m t x : Int} (h1 : 0 ≤ m) (h2 : m < 1440) (h : firstR c m t = (x, 0)) : firstR c m x = (x, 0) := firstR_mid h1 h2 (firstR_in h1 h2 h).1 (Int.le_refl _) h
theorem firstR_two (c : Cal) (m t : Int) : (∃ x, firstR c m t = (x, 0)) ∨ firstR c m t = (0, 20) := by
  by_cases h : (firstR c m t).2 = 0
  · exact .inl ⟨_, firstR_ok h⟩
  · exact .inr (firstR_err h)
set_option maxHeartbeats 8000000 in
set_option maxRecDepth 100000 in
theorem minutes_any (n : Net) (a c8 x : Nat) (w : World) (hn : NetIn w n) (hk : KW w) (ba1 : a < 256) (bc1 : c8 < 256) (bx1 : x < 4294967296) :
    Calls Tryz.prog 6 #[netV n, .int .u8 a, .int .u8 c8, .int .u32 x] w fun e w' => e = .returned (.bool true) ∧ Below w.heap.size w w' := by
  have hb0 := ba w (netO n)
  have hx0 := heap_alloc_new w (netO n)
  have HNP : Hid (NetP (w.alloc (netO n)) w.heap.size n) := ⟨fun i v hv => (cell_of_row _ _ _ _ _ _ hx0).trans hv, hn.below hb0⟩
  have HK := Lib.hid (hk.below hb0)
  have HB0 := Lib.hid hb0
  have hcl := hn.lens.2.2.2.2.2
  have hol := hn.lens.2.2.2.1
  unfold maxLen at hcl hol
  clear hn hk hb0 hx0
  go_enter Tryz.func6, Tryz.ntmps6
  go_upto_region 1 with fail
  change Code.wp _ _ _ _ (w.alloc (netO n))
  generalize (w.alloc (netO n)) = W at *
  generalize hX : w.heap.size = X at *
  have HX := Lib.hid hX; clear hX
  have HNB : Hid (∀ wr, Below W.heap.size W wr → Below w.heap.size w wr) := fun wr hb => by have h := HB0.out; rw [← HX.out] at h; exact bt h hb
  have HT0 : Hid (∀ wr, Tab wr none []) := fun wr => ⟨Rd.nil _ _, fun r hr => by cases hr⟩
  go_wp2_with fail
  refine (head_any _ HK.out).mono ?_
  rintro e w1 ⟨rfl, hb⟩
  have HB1 := Lib.hid hb
  clear hb
  have n0 : w1.cell? ⟨X, 0, none⟩ = some (.slice n.calA n.cals.length n.calC) := (HNP.out.below HB1.out).box 0 _ rfl
  have n1 : w1.cell? ⟨X, 1, none⟩ = some (.slice n.namA n.names.length n.namC) := (HNP.out.below HB1.out).box 1 _ rfl
  have n2 : w1.cell? ⟨X, 2, none⟩ = some (.slice n.opA n.ops.length n.opC) := (HNP.out.below HB1.out).box 2 _ rfl
  have n3 : w1.cell? ⟨X, 3, none⟩ = some (.slice n.offA n.offs.length n.offC) := (HNP.out.below HB1.out).box 3 _ rfl
  have n4 : w1.cell? ⟨X, 4, none⟩ = some (.slice n.linA n.lins.length n.linC) := (HNP.out.below HB1.out).box 4 _ rfl
  have n5 : w1.cell? ⟨X, 5, none⟩ = some (.slice n.clsA n.clss.length n.clsC) := (HNP.out.below HB1.out).box 5 _ rfl
  go_wp2_with fail
  refine (small_any n none 0 [] _ (HNP.out.below HB1.out).net (HT0.out _) (Nat.zero_le _)).mono ?_
  rintro e w2 ⟨⟨b1, rfl, h1⟩, hb⟩
  have H1 := Lib.hid h1
  have HB2 := Lib.hid (bt HB1.out hb)
  clear h1 hb n0 n1 n2 n3 n4 n5
  cases b1
  · go_wp2_with fail
    go_ret
    exact ⟨rfl, HNB.out _ HB2.out⟩
  have HFW := Lib.hid (H1.out rfl)
  clear H1
  have n0 : w2.cell? ⟨X, 0, none⟩ = some (.slice n.calA n.cals.length n.calC) := (HNP.out.below HB2.out).box 0 _ rfl
  have n1 : w2.cell? ⟨X, 1, none⟩ = some (.slice n.namA n.names.length n.namC) := (HNP.out.below HB2.out).box 1 _ rfl
  have n2 : w2.cell? ⟨X, 2, none⟩ = some (.slice n.opA n.ops.length n.opC) := (HNP.out.below HB2.out).box 2 _ rfl
  have n3 : w2.cell? ⟨X, 3, none⟩ = some (.slice n.offA n.offs.length n.offC) := (HNP.out.below HB2.out).box 3 _ rfl
  have n4 : w2.cell? ⟨X, 4, none⟩ = some (.slice n.linA n.lins.length n.linC) := (HNP.out.below HB2.out).box 4 _ rfl
  have n5 : w2.cell? ⟨X, 5, none⟩ = some (.slice n.clsA n.clss.length n.clsC) := (HNP.out.below HB2.out).box 5 _ rfl
  go_wp2_with fail
  refine (rsound_any n _ (HNP.out.below HB2.out).net HFW.out.1).mono ?_
  rintro e w3 ⟨⟨b2, rfl, h2⟩, hb⟩
  have H2 := Lib.hid h2
  have HB3 := Lib.hid (bt HB2.out hb)
  clear h2 hb n0 n1 n2 n3 n4 n5
  cases b2
  · go_wp2_with fail
    go_ret
    exact ⟨rfl, HNB.out _ HB3.out⟩
  have HS := Lib.hid (H2.out rfl)
  clear H2
  have n3 : w3.cell? ⟨X, 3, none⟩ = some (.slice n.offA n.offs.length n.offC) := (HNP.out.below HB3.out).box 3 _ rfl
  have n5 : w3.cell? ⟨X, 5, none⟩ = some (.slice n.clsA n.clss.length n.clsC) := (HNP.out.below HB3.out).box 5 _ rfl
  by_cases ho0 : n.offs.length = 0
  · have z0 : ((n.offs.length : Int) == 0) = true := by rw [beq_iff_eq]; omega
    clear ho0
    go_wp2_with fail
    go_ret
    exact ⟨rfl, HNB.out _ HB3.out⟩
  have zo : ((n.offs.length : Int) == 0) = false := by rw [beq_eq_false_iff_ne]; omega
  by_cases hc0 : n.clss.length = 0
  · have z0 : ((n.clss.length : Int) == 0) = true := by rw [beq_iff_eq]; omega
    clear hc0
    go_wp2_with fail
    go_ret
    exact ⟨rfl, HNB.out _ HB3.out⟩
  have zk : ((n.clss.length : Int) == 0) = false := by rw [beq_eq_false_iff_ne]; omega
  have zo' : ¬ (n.offs.length : Int) = 0 := by omega
  have zk' : ¬ (n.clss.length : Int) = 0 := by omega
  obtain ⟨o, ho⟩ : ∃ o, o = a % n.offs.length := ⟨_, rfl⟩
  obtain ⟨k, hk⟩ : ∃ k, k = c8 % n.clss.length := ⟨_, rfl⟩
  have ho1 : o < n.offs.length := by rw [ho]; exact Nat.mod_lt _ (by omega)
  have hk1 : k < n.clss.length := by rw [hk]; exact Nat.mod_lt _ (by omega)
  have mo : Int.tmod (a : Int) (n.offs.length : Int) = (o : Int) := by rw [ho]; exact mod_nat _ _
  have mk : Int.tmod (c8 : Int) (n.clss.length : Int) = (k : Int) := by rw [hk]; exact mod_nat _ _
  have wa : IntKind.i64.wrap (a : Int) = (a : Int) := IntWalk.i64_in _ (by omega)
  have wc : IntKind.i64.wrap (c8 : Int) = (c8 : Int) := IntWalk.i64_in _ (by omega)
  obtain ⟨t, ht⟩ : ∃ t, t = x % 100001 := ⟨_, rfl⟩
  have ht1 : t ≤ 100000 := by omega
  have mt : Int.tmod (x : Int) 100001 = (t : Int) := by rw [ht]; exact mod_nat x 100001
  have wx : IntKind.i64.wrap (x : Int) = (x : Int) := IntWalk.i64_in _ (by omega)
  obtain ⟨p1, p2, p3, p4⟩ := cls_ok HS.out hk1
  have hrd := HS.out.1.good.off _ (List.mem_of_getElem? (offAt_get ho1))
  have hr0 : 0 ≤ readyR (offAt n o) (t : Int) ∧ readyR (offAt n o) (t : Int) ≤ 200000 := by
    unfold readyR
    have := mul_small hrd.2.1 hrd.2.2.1 hrd.2.2.2.1 hrd.2.2.2.2
    omega
  have HR0 := Lib.hid hr0
  have HC1 := Lib.hid (cutoffTop_eq HS.out hk1 ho1 (t := (t : Int)) (by omega) (by omega))
  have HD1 := Lib.hid (deliveryTop_eq HS.out hk1 ho1 (t := (t : Int)) (by omega) (by omega))
  have HRT := Lib.hid (readyTop_eq HS.out ho1 (t := (t : Int)) (by omega) (by omega))
  clear ho hk ht hrd hr0 n3 n5
  have n0 : w3.cell? ⟨X, 0, none⟩ = some (.slice n.calA n.cals.length n.calC) := (HNP.out.below HB3.out).box 0 _ rfl
  have n1 : w3.cell? ⟨X, 1, none⟩ = some (.slice n.namA n.names.length n.namC) := (HNP.out.below HB3.out).box 1 _ rfl
  have n2 : w3.cell? ⟨X, 2, none⟩ = some (.slice n.opA n.ops.length n.opC) := (HNP.out.below HB3.out).box 2 _ rfl
  have n3 : w3.cell? ⟨X, 3, none⟩ = some (.slice n.offA n.offs.length n.offC) := (HNP.out.below HB3.out).box 3 _ rfl
  have n4 : w3.cell? ⟨X, 4, none⟩ = some (.slice n.linA n.lins.length n.linC) := (HNP.out.below HB3.out).box 4 _ rfl
  have n5 : w3.cell? ⟨X, 5, none⟩ = some (.slice n.clsA n.clss.length n.clsC) := (HNP.out.below HB3.out).box 5 _ rfl
  go_wp2_with fail
  refine (cutofftop_any n k o t _ (HNP.out.below HB3.out).net (HK.out.below HB3.out)).mono ?_
  rintro e w4 ⟨rfl, hb⟩
  have HB4 := Lib.hid (bt HB3.out hb)
  clear hb n0 n1 n2 n3 n4 n5
  rw [HC1.out]
  have n0 : w4.cell? ⟨X, 0, none⟩ = some (.slice n.calA n.cals.length n.calC) := (HNP.out.below HB4.out).box 0 _ rfl
  have n1 : w4.cell? ⟨X, 1, none⟩ = some (.slice n.namA n.names.length n.namC) := (HNP.out.below HB4.out).box 1 _ rfl
  have n2 : w4.cell? ⟨X, 2, none⟩ = some (.slice n.opA n.ops.length n.opC) := (HNP.out.below HB4.out).box 2 _ rfl
  have n3 : w4.cell? ⟨X, 3, none⟩ = some (.slice n.offA n.offs.length n.offC) := (HNP.out.below HB4.out).box 3 _ rfl
  have n4 : w4.cell? ⟨X, 4, none⟩ = some (.slice n.linA n.lins.length n.linC) := (HNP.out.below HB4.out).box 4 _ rfl
  have n5 : w4.cell? ⟨X, 5, none⟩ = some (.slice n.clsA n.clss.length n.clsC) := (HNP.out.below HB4.out).box 5 _ rfl
  go_wp2_with fail
  refine (deliverytop_any n k o t _ (HNP.out.below HB4.out).net (HK.out.below HB4.out)).mono ?_
  rintro e w5 ⟨rfl, hb⟩
  have HB5 := Lib.hid (bt HB4.out hb)
  clear hb n0 n1 n2 n3 n4 n5
  rw [HD1.out]
  clear HC1 HD1
  obtain ⟨-, kb, ko, hA, hkb, -, hkc⟩ := elem_at encCls_len (HNP.out.below HB5.out).net.clss (clsAt_get hk1) (by omega)
  have HA := Lib.hid hA
  have HXL := Lib.hid (HNP.out.below HB5.out).lt
  have k1 := hkc 1 _ rfl
  have k2 := hkc 2 _ rfl
  have hst : ∀ wr, Below w5.heap.size w5 wr → (fun w' => w'.cell? ⟨X, 0, none⟩ = some (.slice n.calA n.cals.length n.calC) ∧ w'.cell? ⟨X, 1, none⟩ = some (.slice n.namA n.names.length n.namC) ∧ w'.cell? ⟨X, 2, none⟩ = some (.slice n.opA n.ops.length n.opC) ∧ w'.cell? ⟨X, 3, none⟩ = some (.slice n.offA n.offs.length n.offC) ∧ w'.cell? ⟨X, 4, none⟩ = some (.slice n.linA n.lins.length n.linC) ∧ w'.cell? ⟨X, 5, none⟩ = some (.slice (some ⟨kb, ko, none⟩) n.clss.length n.clsC) ∧ w'.cell? ⟨kb, ko + k * 3 + 1, none⟩ = some (iV (clsAt n k).cut) ∧ w'.cell? ⟨kb, ko + k * 3 + 2, none⟩ = some (iV (clsAt n k).deliver)) wr := fun wr hb => by
    have h := (HNP.out.below HB5.out).below hb
    refine ⟨h.box 0 _ rfl, h.box 1 _ rfl, h.box 2 _ rfl, h.box 3 _ rfl, h.box 4 _ rfl, ?_, (hb.cell (p := ⟨kb, _, none⟩) hkb).trans k1, (hb.cell (p := ⟨kb, _, none⟩) hkb).trans k2⟩
    rw [← HA.out]
    exact h.box 5 _ rfl
  have HST := Lib.hid hst
  clear hkc k1 k2 hA hkb hst
  have j1 : (0 : Int) ≤ (k : Int) := by omega
  have j2 : (k : Int) < (n.clss.length : Int) := by omega
  have HCUT := Lib.hid (firstR_two (calAt n o) (clsAt n k).cut (t : Int))
  have HDEL : Hid ((∃ y, deliveryR (calAt n o) (offAt n o) (clsAt n k) (t : Int) = (y, 0)) ∨ deliveryR (calAt n o) (offAt n o) (clsAt n k) (t : Int) = (0, 20)) := firstR_two (calAt n o) (clsAt n k).deliver (readyR (offAt n o) (t : Int))
  rcases HCUT.out with ⟨cx, hcx⟩ | hcx
  · rw [hcx]
    dsimp only
    have HCC := Lib.hid hcx; clear hcx
    have HCX := Lib.hid (firstR_in p1 p2 HCC.out)
    have HFST0 : Hid (∀ wr, Below w5.heap.size w5 wr → Calls Tryz.prog 17 #[.agg #[.slice n.calA n.cals.length n.calC, .slice n.namA n.names.length n.namC, .slice n.opA n.ops.length n.opC, .slice n.offA n.offs.length n.offC, .slice n.linA n.lins.length n.linC, .slice (some ⟨kb, ko, none⟩) n.clss.length n.clsC], iV o, iV (clsAt n k).cut, iV t, iV cx] wr fun e w' => e = .returned (.bool true) ∧ Below wr.heap.size wr w') := fun wr hb => by
      have h := lawfirst_any n o (clsAt n k).cut (t : Int) cx wr (HNP.out.below (bt HB5.out hb)).net HS.out.1.good ho1 p1 p2 (by omega) (by omega) HCC.out
      simp only [netV, HA.out] at h
      exact h
    go_wp2_with fail
    refine wp_region_noPanic ?_
    refine wp_region_held_drew (S := fun w' => w'.cell? ⟨X, 0, none⟩ = some (.slice n.calA n.cals.length n.calC) ∧ w'.cell? ⟨X, 1, none⟩ = some (.slice n.namA n.names.length n.namC) ∧ w'.cell? ⟨X, 2, none⟩ = some (.slice n.opA n.ops.length n.opC) ∧ w'.cell? ⟨X, 3, none⟩ = some (.slice n.offA n.offs.length n.offC) ∧ w'.cell? ⟨X, 4, none⟩ = some (.slice n.linA n.lins.length n.linC) ∧ w'.cell? ⟨X, 5, none⟩ = some (.slice (some ⟨kb, ko, none⟩) n.clss.length n.clsC) ∧ w'.cell? ⟨kb, ko + k * 3 + 1, none⟩ = some (iV (clsAt n k).cut) ∧ w'.cell? ⟨kb, ko + k * 3 + 2, none⟩ = some (iV (clsAt n k).deliver)) (by kernel_rfl) (HST.out _ (b_drew (Below.refl _ _))) (fun hHeld => ?_)
    refine wpAnyH_take (i := 0) (v := ?_) rfl (by kernel_rfl) (by kernel_rfl) (by kernel_rfl) (fun _ _ _ h => h) (Or.inl ⟨by kernel_rfl, ?_⟩) (by assumption) ?_
    rotate_left
    · (intro w hSw; (try dsimp only at hSw); go_simp; (try with_reducible rfl))
    try simp only [Act.put, List.getElem_toArray, List.getElem_cons_succ, List.getElem_cons_zero, List.setIfInBounds_toArray, List.set_cons_zero, List.set_cons_succ]
    refine wpAnyH_take (i := 1) (v := ?_) rfl (by kernel_rfl) (by kernel_rfl) (by kernel_rfl) (fun _ _ _ h => h) (Or.inl ⟨by kernel_rfl, ?_⟩) (by assumption) ?_
    rotate_left
    · (intro w hSw; (try dsimp only at hSw); go_simp; (try with_reducible rfl))
    try simp only [Act.put, List.getElem_toArray, List.getElem_cons_succ, List.getElem_cons_zero, List.setIfInBounds_toArray, List.set_cons_zero, List.set_cons_succ]
    refine wpAnyH_take (i := 2) (v := ?_) rfl (by kernel_rfl) (by kernel_rfl) (by kernel_rfl) (fun _ _ _ h => h) (Or.inl ⟨by kernel_rfl, ?_⟩) (by assumption) ?_
    rotate_left
    · (intro w hSw; (try dsimp only at hSw); go_simp; (try with_reducible rfl))
    try simp only [Act.put, List.getElem_toArray, List.getElem_cons_succ, List.getElem_cons_zero, List.setIfInBounds_toArray, List.set_cons_zero, List.set_cons_succ]
    refine wpAnyH_take (i := 3) (v := undef) rfl (by kernel_rfl) (by kernel_rfl) (by kernel_rfl) (fun _ _ _ h => h) (Or.inr ⟨by kernel_rfl, rfl⟩) (by assumption) ?_
    try simp only [Act.put, List.getElem_toArray, List.getElem_cons_succ, List.getElem_cons_zero, List.setIfInBounds_toArray, List.set_cons_zero, List.set_cons_succ]
    refine wpAnyH_take (i := 4) (v := undef) rfl (by kernel_rfl) (by kernel_rfl) (by kernel_rfl) (fun _ _ _ h => h) (Or.inr ⟨by kernel_rfl, rfl⟩) (by assumption) ?_
    try simp only [Act.put, List.getElem_toArray, List.getElem_cons_succ, List.getElem_cons_zero, List.setIfInBounds_toArray, List.set_cons_zero, List.set_cons_succ]
    refine wpAnyH_take (i := 5) (v := ?_) rfl (by kernel_rfl) (by kernel_rfl) (by kernel_rfl) (fun _ _ _ h => h) (Or.inl ⟨by kernel_rfl, ?_⟩) (by assumption) ?_
    rotate_left
    · (intro w hSw; (try dsimp only at hSw); go_simp; (try with_reducible rfl))
    try simp only [Act.put, List.getElem_toArray, List.getElem_cons_succ, List.getElem_cons_zero, List.setIfInBounds_toArray, List.set_cons_zero, List.set_cons_succ]
    refine wpAnyH_take (i := 6) (v := ?_) rfl (by kernel_rfl) (by kernel_rfl) (by kernel_rfl) (fun _ _ _ h => h) (Or.inl ⟨by kernel_rfl, ?_⟩) (by assumption) ?_
    rotate_left
    · (intro w hSw; (try dsimp only at hSw); go_simp; (try with_reducible rfl))
    try simp only [Act.put, List.getElem_toArray, List.getElem_cons_succ, List.getElem_cons_zero, List.setIfInBounds_toArray, List.set_cons_zero, List.set_cons_succ]
    refine wpAnyH_take (i := 7) (v := undef) rfl (by kernel_rfl) (by kernel_rfl) (by kernel_rfl) (fun _ _ _ h => h) (Or.inr ⟨by kernel_rfl, rfl⟩) (by assumption) ?_
    try simp only [Act.put, List.getElem_toArray, List.getElem_cons_succ, List.getElem_cons_zero, List.setIfInBounds_toArray, List.set_cons_zero, List.set_cons_succ]
    refine wpAnyH_take (i := 8) (v := undef) rfl (by kernel_rfl) (by kernel_rfl) (by kernel_rfl) (fun _ _ _ h => h) (Or.inr ⟨by kernel_rfl, rfl⟩) (by assumption) ?_
    try simp only [Act.put, List.getElem_toArray, List.getElem_cons_succ, List.getElem_cons_zero, List.setIfInBounds_toArray, List.set_cons_zero, List.set_cons_succ]
    refine wpAnyH_take (i := 9) (v := ?_) rfl (by kernel_rfl) (by kernel_rfl) (by kernel_rfl) (fun _ _ _ h => h) (Or.inl ⟨by kernel_rfl, ?_⟩) (by assumption) ?_
    rotate_left
    · (intro w hSw; (try dsimp only at hSw); go_simp; (try with_reducible rfl))
    try simp only [Act.put, List.getElem_toArray, List.getElem_cons_succ, List.getElem_cons_zero, List.setIfInBounds_toArray, List.set_cons_zero, List.set_cons_succ]
    refine wpAnyH_take (i := 10) (v := ?_) rfl (by kernel_rfl) (by kernel_rfl) (by kernel_rfl) (fun _ _ _ h => h) (Or.inl ⟨by kernel_rfl, ?_⟩) (by assumption) ?_
    rotate_left
    · (intro w hSw; (try dsimp only at hSw); go_simp; (try with_reducible rfl))
    try simp only [Act.put, List.getElem_toArray, List.getElem_cons_succ, List.getElem_cons_zero, List.setIfInBounds_toArray, List.set_cons_zero, List.set_cons_succ]
    refine wpAnyH_take (i := 11) (v := ?_) rfl (by kernel_rfl) (by kernel_rfl) (by kernel_rfl) (fun _ _ _ h => h) (Or.inl ⟨by kernel_rfl, ?_⟩) (by assumption) ?_
    rotate_left
    · (intro w hSw; (try dsimp only at hSw); go_simp; (try with_reducible rfl))
    try simp only [Act.put, List.getElem_toArray, List.getElem_cons_succ, List.getElem_cons_zero, List.setIfInBounds_toArray, List.set_cons_zero, List.set_cons_succ]
    refine wpAnyH_take (i := 12) (v := ?_) rfl (by kernel_rfl) (by kernel_rfl) (by kernel_rfl) (fun _ _ _ h => h) (Or.inl ⟨by kernel_rfl, ?_⟩) (by assumption) ?_
    rotate_left
    · (intro w hSw; (try dsimp only at hSw); go_simp; (try with_reducible rfl))
    try simp only [Act.put, List.getElem_toArray, List.getElem_cons_succ, List.getElem_cons_zero, List.setIfInBounds_toArray, List.set_cons_zero, List.set_cons_succ]
    refine wpAnyH_take (i := 13) (v := ?_) rfl (by kernel_rfl) (by kernel_rfl) (by kernel_rfl) (fun _ _ _ h => h) (Or.inl ⟨by kernel_rfl, ?_⟩) (by assumption) ?_
    rotate_left
    · (intro w hSw; (try dsimp only at hSw); go_simp; (try with_reducible rfl))
    try simp only [Act.put, List.getElem_toArray, List.getElem_cons_succ, List.getElem_cons_zero, List.setIfInBounds_toArray, List.set_cons_zero, List.set_cons_succ]
    refine wpAnyH_take (i := 14) (v := ?_) rfl (by kernel_rfl) (by kernel_rfl) (by kernel_rfl) (fun _ _ _ h => h) (Or.inl ⟨by kernel_rfl, ?_⟩) (by assumption) ?_
    rotate_left
    · (intro w hSw; (try dsimp only at hSw); go_simp; (try with_reducible rfl))
    try simp only [Act.put, List.getElem_toArray, List.getElem_cons_succ, List.getElem_cons_zero, List.setIfInBounds_toArray, List.set_cons_zero, List.set_cons_succ]
    refine wpAnyH_take (i := 15) (v := ?_) rfl (by kernel_rfl) (by kernel_rfl) (by kernel_rfl) (fun _ _ _ h => h) (Or.inl ⟨by kernel_rfl, ?_⟩) (by assumption) ?_
    rotate_left
    · (intro w hSw; (try dsimp only at hSw); go_simp; (try with_reducible rfl))
    try simp only [Act.put, List.getElem_toArray, List.getElem_cons_succ, List.getElem_cons_zero, List.setIfInBounds_toArray, List.set_cons_zero, List.set_cons_succ]
    refine wpAnyH_take (i := 16) (v := ?_) rfl (by kernel_rfl) (by kernel_rfl) (by kernel_rfl) (fun _ _ _ h => h) (Or.inl ⟨by kernel_rfl, ?_⟩) (by assumption) ?_
    rotate_left
    · (intro w hSw; (try dsimp only at hSw); go_simp; (try with_reducible rfl))
    try simp only [Act.put, List.getElem_toArray, List.getElem_cons_succ, List.getElem_cons_zero, List.setIfInBounds_toArray, List.set_cons_zero, List.set_cons_succ]
    refine wpAnyH_take (i := 17) (v := ?_) rfl (by kernel_rfl) (by kernel_rfl) (by kernel_rfl) (fun _ _ _ h => h) (Or.inl ⟨by kernel_rfl, ?_⟩) (by assumption) ?_
    rotate_left
    · (intro w hSw; (try dsimp only at hSw); go_simp; (try with_reducible rfl))
    try simp only [Act.put, List.getElem_toArray, List.getElem_cons_succ, List.getElem_cons_zero, List.setIfInBounds_toArray, List.set_cons_zero, List.set_cons_succ]
    refine wpAnyH_take (i := 18) (v := ?_) rfl (by kernel_rfl) (by kernel_rfl) (by kernel_rfl) (fun _ _ _ h => h) (Or.inl ⟨by kernel_rfl, ?_⟩) (by assumption) ?_
    rotate_left
    · (intro w hSw; (try dsimp only at hSw); go_simp; (try with_reducible rfl))
    try simp only [Act.put, List.getElem_toArray, List.getElem_cons_succ, List.getElem_cons_zero, List.setIfInBounds_toArray, List.set_cons_zero, List.set_cons_succ]
    refine wpAnyH_take (i := 19) (v := ?_) rfl (by kernel_rfl) (by kernel_rfl) (by kernel_rfl) (fun _ _ _ h => h) (Or.inl ⟨by kernel_rfl, ?_⟩) (by assumption) ?_
    rotate_left
    · (intro w hSw; (try dsimp only at hSw); go_simp; (try with_reducible rfl))
    try simp only [Act.put, List.getElem_toArray, List.getElem_cons_succ, List.getElem_cons_zero, List.setIfInBounds_toArray, List.set_cons_zero, List.set_cons_succ]
    refine wpAnyH_take (i := 20) (v := ?_) rfl (by kernel_rfl) (by kernel_rfl) (by kernel_rfl) (fun _ _ _ h => h) (Or.inl ⟨by kernel_rfl, ?_⟩) (by assumption) ?_
    rotate_left
    · (intro w hSw; (try dsimp only at hSw); go_simp; (try with_reducible rfl))
    try simp only [Act.put, List.getElem_toArray, List.getElem_cons_succ, List.getElem_cons_zero, List.setIfInBounds_toArray, List.set_cons_zero, List.set_cons_succ]
    refine wpAnyH_take (i := 21) (v := ?_) rfl (by kernel_rfl) (by kernel_rfl) (by kernel_rfl) (fun _ _ _ h => h) (Or.inl ⟨by kernel_rfl, ?_⟩) (by assumption) ?_
    rotate_left
    · (intro w hSw; (try dsimp only at hSw); go_simp; (try with_reducible rfl))
    try simp only [Act.put, List.getElem_toArray, List.getElem_cons_succ, List.getElem_cons_zero, List.setIfInBounds_toArray, List.set_cons_zero, List.set_cons_succ]
    refine wpAnyH_take (i := 22) (v := ?_) rfl (by kernel_rfl) (by kernel_rfl) (by kernel_rfl) (fun _ _ _ h => h) (Or.inl ⟨by kernel_rfl, ?_⟩) (by assumption) ?_
    rotate_left
    · (intro w hSw; (try dsimp only at hSw); go_simp; (try with_reducible rfl))
    try simp only [Act.put, List.getElem_toArray, List.getElem_cons_succ, List.getElem_cons_zero, List.setIfInBounds_toArray, List.set_cons_zero, List.set_cons_succ]
    refine wpAnyH_take (i := 23) (v := ?_) rfl (by kernel_rfl) (by kernel_rfl) (by kernel_rfl) (fun _ _ _ h => h) (Or.inl ⟨by kernel_rfl, ?_⟩) (by assumption) ?_
    rotate_left
    · (intro w hSw; (try dsimp only at hSw); go_simp; (try with_reducible rfl))
    try simp only [Act.put, List.getElem_toArray, List.getElem_cons_succ, List.getElem_cons_zero, List.setIfInBounds_toArray, List.set_cons_zero, List.set_cons_succ]
    refine wpAnyH_ready (rs := [24]) (by kernel_rfl) (by simp) ?_
    refine AllReadyH.cons rfl (fun K hK => ?_) AllReadyH.nil
    go_simp
    (go_at_call 17; refine (HFST0.out _ (b_drew (Below.refl _ _))).mono ?_; rintro e w6 ⟨rfl, hb⟩; have HB56 := Lib.hid (bdr hb); clear hb)
    go_wp2_with fail
    refine hK.out _ _ (HST.out _ HB56.out) (fun hHeld => ?_)
    clear hK K
    try simp only [Act.put, List.getElem_toArray, List.getElem_cons_succ, List.getElem_cons_zero, List.setIfInBounds_toArray, List.set_cons_zero, List.set_cons_succ]
    refine wpAnyH_take (i := 25) (v := ?_) rfl (by kernel_rfl) (by kernel_rfl) (by kernel_rfl) (fun _ _ _ h => h) (Or.inl ⟨by kernel_rfl, ?_⟩) (by assumption) ?_
    rotate_left
    · (intro w hSw; (try dsimp only at hSw); go_simp; (try with_reducible rfl))
    try simp only [Act.put, List.getElem_toArray, List.getElem_cons_succ, List.getElem_cons_zero, List.setIfInBounds_toArray, List.set_cons_zero, List.set_cons_succ]
    refine wpAnyH_take (i := 26) (v := ?_) rfl (by kernel_rfl) (by kernel_rfl) (by kernel_rfl) (fun _ _ _ h => h) (Or.inl ⟨by kernel_rfl, ?_⟩) (by assumption) ?_
    rotate_left
    · (intro w hSw; (try dsimp only at hSw); go_simp; (try with_reducible rfl))
    try simp only [Act.put, List.getElem_toArray, List.getElem_cons_succ, List.getElem_cons_zero, List.setIfInBounds_toArray, List.set_cons_zero, List.set_cons_succ]
    refine wpAnyH_take (i := 27) (v := ?_) rfl (by kernel_rfl) (by kernel_rfl) (by kernel_rfl) (fun _ _ _ h => h) (Or.inl ⟨by kernel_rfl, ?_⟩) (by assumption) ?_
    rotate_left
    · (intro w hSw; (try dsimp only at hSw); go_simp; (try with_reducible rfl))
    try simp only [Act.put, List.getElem_toArray, List.getElem_cons_succ, List.getElem_cons_zero, List.setIfInBounds_toArray, List.set_cons_zero, List.set_cons_succ]
    refine wpAnyH_done (by kernel_rfl) ?_ _
    refine NoPanic.normal ?_
    clear hHeld
    have HB6 := Lib.hid (bt HB5.out HB56.out)
    rcases HDEL.out with ⟨dy, hdy⟩ | hdy
    · rw [hdy]
      dsimp only
      have HDY := Lib.hid hdy; clear hdy
      have HRDY : Hid (∀ wr, Below w6.heap.size w6 wr → Calls Tryz.prog 18 #[.agg #[.slice n.calA n.cals.length n.calC, .slice n.namA n.names.length n.namC, .slice n.opA n.ops.length n.opC, .slice n.offA n.offs.length n.offC, .slice n.linA n.lins.length n.linC, .slice (some ⟨kb, ko, none⟩) n.clss.length n.clsC], iV o, iV t] wr fun e w' => e = .returned (iV (readyR (offAt n o) (t : Int))) ∧ Below wr.heap.size wr w') := fun wr hb => by
        have h := readytop_any n o t wr (HNP.out.below (bt HB6.out hb)).net (HK.out.below (bt HB6.out hb))
        rw [HRT.out] at h
        simp only [netV, HA.out] at h
        exact h
      have HFST : Hid (∀ wr, Below w6.heap.size w6 wr → Calls Tryz.prog 17 #[.agg #[.slice n.calA n.cals.length n.calC, .slice n.namA n.names.length n.namC, .slice n.opA n.ops.length n.opC, .slice n.offA n.offs.length n.offC, .slice n.linA n.lins.length n.linC, .slice (some ⟨kb, ko, none⟩) n.clss.length n.clsC], iV o, iV (clsAt n k).deliver, iV (readyR (offAt n o) (t : Int)), iV dy] wr fun e w' => e = .returned (.bool true) ∧ Below wr.heap.size wr w') := fun wr hb => by
        have h := lawfirst_any n o (clsAt n k).deliver (readyR (offAt n o) (t : Int)) dy wr (HNP.out.below (bt HB6.out hb)).net HS.out.1.good ho1 p3 p4 HR0.out.1 (by have := HR0.out.2; omega) HDY.out
        simp only [netV, HA.out] at h
        exact h
      have HST6 : Hid (∀ wr, Below w6.heap.size w6 wr → (fun w' => w'.cell? ⟨X, 0, none⟩ = some (.slice n.calA n.cals.length n.calC) ∧ w'.cell? ⟨X, 1, none⟩ = some (.slice n.namA n.names.length n.namC) ∧ w'.cell? ⟨X, 2, none⟩ = some (.slice n.opA n.ops.length n.opC) ∧ w'.cell? ⟨X, 3, none⟩ = some (.slice n.offA n.offs.length n.offC) ∧ w'.cell? ⟨X, 4, none⟩ = some (.slice n.linA n.lins.length n.linC) ∧ w'.cell? ⟨X, 5, none⟩ = some (.slice (some ⟨kb, ko, none⟩) n.clss.length n.clsC) ∧ w'.cell? ⟨kb, ko + k * 3 + 1, none⟩ = some (iV (clsAt n k).cut) ∧ w'.cell? ⟨kb, ko + k * 3 + 2, none⟩ = some (iV (clsAt n k).deliver)) wr) := fun wr hb => HST.out wr (bt HB56.out hb)
      go_wp2_with fail
      refine wp_region_noPanic ?_
      refine wp_region_held_drew (S := fun w' => w'.cell? ⟨X, 0, none⟩ = some (.slice n.calA n.cals.length n.calC) ∧ w'.cell? ⟨X, 1, none⟩ = some (.slice n.namA n.names.length n.namC) ∧ w'.cell? ⟨X, 2, none⟩ = some (.slice n.opA n.ops.length n.opC) ∧ w'.cell? ⟨X, 3, none⟩ = some (.slice n.offA n.offs.length n.offC) ∧ w'.cell? ⟨X, 4, none⟩ = some (.slice n.linA n.lins.length n.linC) ∧ w'.cell? ⟨X, 5, none⟩ = some (.slice (some ⟨kb, ko, none⟩) n.clss.length n.clsC) ∧ w'.cell? ⟨kb, ko + k * 3 + 1, none⟩ = some (iV (clsAt n k).cut) ∧ w'.cell? ⟨kb, ko + k * 3 + 2, none⟩ = some (iV (clsAt n k).deliver)) (by kernel_rfl) (HST6.out _ (b_drew (Below.refl _ _))) (fun hHeld => ?_)
      refine wpAnyH_take (i := 0) (v := ?_) rfl (by kernel_rfl) (by kernel_rfl) (by kernel_rfl) (fun _ _ _ h => h) (Or.inl ⟨by kernel_rfl, ?_⟩) (by assumption) ?_
      rotate_left
      · (intro w hSw; (try dsimp only at hSw); go_simp; (try with_reducible rfl))
      try simp only [Act.put, List.getElem_toArray, List.getElem_cons_succ, List.getElem_cons_zero, List.setIfInBounds_toArray, List.set_cons_zero, List.set_cons_succ]
      refine wpAnyH_take (i := 1) (v := ?_) rfl (by kernel_rfl) (by kernel_rfl) (by kernel_rfl) (fun _ _ _ h => h) (Or.inl ⟨by kernel_rfl, ?_⟩) (by assumption) ?_
      rotate_left
      · (intro w hSw; (try dsimp only at hSw); go_simp; (try with_reducible rfl))
      try simp only [Act.put, List.getElem_toArray, List.getElem_cons_succ, List.getElem_cons_zero, List.setIfInBounds_toArray, List.set_cons_zero, List.set_cons_succ]
      refine wpAnyH_take (i := 2) (v := ?_) rfl (by kernel_rfl) (by kernel_rfl) (by kernel_rfl) (fun _ _ _ h => h) (Or.inl ⟨by kernel_rfl, ?_⟩) (by assumption) ?_
      rotate_left
      · (intro w hSw; (try dsimp only at hSw); go_simp; (try with_reducible rfl))
      try simp only [Act.put, List.getElem_toArray, List.getElem_cons_succ, List.getElem_cons_zero, List.setIfInBounds_toArray, List.set_cons_zero, List.set_cons_succ]
      refine wpAnyH_take (i := 3) (v := undef) rfl (by kernel_rfl) (by kernel_rfl) (by kernel_rfl) (fun _ _ _ h => h) (Or.inr ⟨by kernel_rfl, rfl⟩) (by assumption) ?_
      try simp only [Act.put, List.getElem_toArray, List.getElem_cons_succ, List.getElem_cons_zero, List.setIfInBounds_toArray, List.set_cons_zero, List.set_cons_succ]
      refine wpAnyH_take (i := 4) (v := undef) rfl (by kernel_rfl) (by kernel_rfl) (by kernel_rfl) (fun _ _ _ h => h) (Or.inr ⟨by kernel_rfl, rfl⟩) (by assumption) ?_
      try simp only [Act.put, List.getElem_toArray, List.getElem_cons_succ, List.getElem_cons_zero, List.setIfInBounds_toArray, List.set_cons_zero, List.set_cons_succ]
      refine wpAnyH_take (i := 5) (v := ?_) rfl (by kernel_rfl) (by kernel_rfl) (by kernel_rfl) (fun _ _ _ h => h) (Or.inl ⟨by kernel_rfl, ?_⟩) (by assumption) ?_
      rotate_left
      · (intro w hSw; (try dsimp only at hSw); go_simp; (try with_reducible rfl))
      try simp only [Act.put, List.getElem_toArray, List.getElem_cons_succ, List.getElem_cons_zero, List.setIfInBounds_toArray, List.set_cons_zero, List.set_cons_succ]
      refine wpAnyH_take (i := 6) (v := ?_) rfl (by kernel_rfl) (by kernel_rfl) (by kernel_rfl) (fun _ _ _ h => h) (Or.inl ⟨by kernel_rfl, ?_⟩) (by assumption) ?_
      rotate_left
      · (intro w hSw; (try dsimp only at hSw); go_simp; (try with_reducible rfl))
      try simp only [Act.put, List.getElem_toArray, List.getElem_cons_succ, List.getElem_cons_zero, List.setIfInBounds_toArray, List.set_cons_zero, List.set_cons_succ]
      refine wpAnyH_take (i := 7) (v := undef) rfl (by kernel_rfl) (by kernel_rfl) (by kernel_rfl) (fun _ _ _ h => h) (Or.inr ⟨by kernel_rfl, rfl⟩) (by assumption) ?_
      try simp only [Act.put, List.getElem_toArray, List.getElem_cons_succ, List.getElem_cons_zero, List.setIfInBounds_toArray, List.set_cons_zero, List.set_cons_succ]
      refine wpAnyH_take (i := 8) (v := undef) rfl (by kernel_rfl) (by kernel_rfl) (by kernel_rfl) (fun _ _ _ h => h) (Or.inr ⟨by kernel_rfl, rfl⟩) (by assumption) ?_
      try simp only [Act.put, List.getElem_toArray, List.getElem_cons_succ, List.getElem_cons_zero, List.setIfInBounds_toArray, List.set_cons_zero, List.set_cons_succ]
      refine wpAnyH_take (i := 9) (v := ?_) rfl (by kernel_rfl) (by kernel_rfl) (by kernel_rfl) (fun _ _ _ h => h) (Or.inl ⟨by kernel_rfl, ?_⟩) (by assumption) ?_
      rotate_left
      · (intro w hSw; (try dsimp only at hSw); go_simp; (try with_reducible rfl))
      try simp only [Act.put, List.getElem_toArray, List.getElem_cons_succ, List.getElem_cons_zero, List.setIfInBounds_toArray, List.set_cons_zero, List.set_cons_succ]
      refine wpAnyH_take (i := 10) (v := ?_) rfl (by kernel_rfl) (by kernel_rfl) (by kernel_rfl) (fun _ _ _ h => h) (Or.inl ⟨by kernel_rfl, ?_⟩) (by assumption) ?_
      rotate_left
      · (intro w hSw; (try dsimp only at hSw); go_simp; (try with_reducible rfl))
      try simp only [Act.put, List.getElem_toArray, List.getElem_cons_succ, List.getElem_cons_zero, List.setIfInBounds_toArray, List.set_cons_zero, List.set_cons_succ]
      refine wpAnyH_take (i := 11) (v := ?_) rfl (by kernel_rfl) (by kernel_rfl) (by kernel_rfl) (fun _ _ _ h => h) (Or.inl ⟨by kernel_rfl, ?_⟩) (by assumption) ?_
      rotate_left
      · (intro w hSw; (try dsimp only at hSw); go_simp; (try with_reducible rfl))
      try simp only [Act.put, List.getElem_toArray, List.getElem_cons_succ, List.getElem_cons_zero, List.setIfInBounds_toArray, List.set_cons_zero, List.set_cons_succ]
      refine wpAnyH_take (i := 12) (v := ?_) rfl (by kernel_rfl) (by kernel_rfl) (by kernel_rfl) (fun _ _ _ h => h) (Or.inl ⟨by kernel_rfl, ?_⟩) (by assumption) ?_
      rotate_left
      · (intro w hSw; (try dsimp only at hSw); go_simp; (try with_reducible rfl))
      try simp only [Act.put, List.getElem_toArray, List.getElem_cons_succ, List.getElem_cons_zero, List.setIfInBounds_toArray, List.set_cons_zero, List.set_cons_succ]
      refine wpAnyH_take (i := 13) (v := ?_) rfl (by kernel_rfl) (by kernel_rfl) (by kernel_rfl) (fun _ _ _ h => h) (Or.inl ⟨by kernel_rfl, ?_⟩) (by assumption) ?_
      rotate_left
      · (intro w hSw; (try dsimp only at hSw); go_simp; (try with_reducible rfl))
      try simp only [Act.put, List.getElem_toArray, List.getElem_cons_succ, List.getElem_cons_zero, List.setIfInBounds_toArray, List.set_cons_zero, List.set_cons_succ]
      refine wpAnyH_take (i := 14) (v := ?_) rfl (by kernel_rfl) (by kernel_rfl) (by kernel_rfl) (fun _ _ _ h => h) (Or.inl ⟨by kernel_rfl, ?_⟩) (by assumption) ?_
      rotate_left
      · (intro w hSw; (try dsimp only at hSw); go_simp; (try with_reducible rfl))
      try simp only [Act.put, List.getElem_toArray, List.getElem_cons_succ, List.getElem_cons_zero, List.setIfInBounds_toArray, List.set_cons_zero, List.set_cons_succ]
      refine wpAnyH_take (i := 15) (v := ?_) rfl (by kernel_rfl) (by kernel_rfl) (by kernel_rfl) (fun _ _ _ h => h) (Or.inl ⟨by kernel_rfl, ?_⟩) (by assumption) ?_
      rotate_left
      · (intro w hSw; (try dsimp only at hSw); go_simp; (try with_reducible rfl))
      try simp only [Act.put, List.getElem_toArray, List.getElem_cons_succ, List.getElem_cons_zero, List.setIfInBounds_toArray, List.set_cons_zero, List.set_cons_succ]
      refine wpAnyH_take (i := 16) (v := ?_) rfl (by kernel_rfl) (by kernel_rfl) (by kernel_rfl) (fun _ _ _ h => h) (Or.inl ⟨by kernel_rfl, ?_⟩) (by assumption) ?_
      rotate_left
      · (intro w hSw; (try dsimp only at hSw); go_simp; (try with_reducible rfl))
      try simp only [Act.put, List.getElem_toArray, List.getElem_cons_succ, List.getElem_cons_zero, List.setIfInBounds_toArray, List.set_cons_zero, List.set_cons_succ]
      refine wpAnyH_take (i := 17) (v := ?_) rfl (by kernel_rfl) (by kernel_rfl) (by kernel_rfl) (fun _ _ _ h => h) (Or.inl ⟨by kernel_rfl, ?_⟩) (by assumption) ?_
      rotate_left
      · (intro w hSw; (try dsimp only at hSw); go_simp; (try with_reducible rfl))
      try simp only [Act.put, List.getElem_toArray, List.getElem_cons_succ, List.getElem_cons_zero, List.setIfInBounds_toArray, List.set_cons_zero, List.set_cons_succ]
      refine wpAnyH_take (i := 18) (v := ?_) rfl (by kernel_rfl) (by kernel_rfl) (by kernel_rfl) (fun _ _ _ h => h) (Or.inl ⟨by kernel_rfl, ?_⟩) (by assumption) ?_
      rotate_left
      · (intro w hSw; (try dsimp only at hSw); go_simp; (try with_reducible rfl))
      try simp only [Act.put, List.getElem_toArray, List.getElem_cons_succ, List.getElem_cons_zero, List.setIfInBounds_toArray, List.set_cons_zero, List.set_cons_succ]
      refine wpAnyH_take (i := 19) (v := ?_) rfl (by kernel_rfl) (by kernel_rfl) (by kernel_rfl) (fun _ _ _ h => h) (Or.inl ⟨by kernel_rfl, ?_⟩) (by assumption) ?_
      rotate_left
      · (intro w hSw; (try dsimp only at hSw); go_simp; (try with_reducible rfl))
      try simp only [Act.put, List.getElem_toArray, List.getElem_cons_succ, List.getElem_cons_zero, List.setIfInBounds_toArray, List.set_cons_zero, List.set_cons_succ]
      refine wpAnyH_take (i := 20) (v := ?_) rfl (by kernel_rfl) (by kernel_rfl) (by kernel_rfl) (fun _ _ _ h => h) (Or.inl ⟨by kernel_rfl, ?_⟩) (by assumption) ?_
      rotate_left
      · (intro w hSw; (try dsimp only at hSw); go_simp; (try with_reducible rfl))
      try simp only [Act.put, List.getElem_toArray, List.getElem_cons_succ, List.getElem_cons_zero, List.setIfInBounds_toArray, List.set_cons_zero, List.set_cons_succ]
      refine wpAnyH_take (i := 21) (v := ?_) rfl (by kernel_rfl) (by kernel_rfl) (by kernel_rfl) (fun _ _ _ h => h) (Or.inl ⟨by kernel_rfl, ?_⟩) (by assumption) ?_
      rotate_left
      · (intro w hSw; (try dsimp only at hSw); go_simp; (try with_reducible rfl))
      try simp only [Act.put, List.getElem_toArray, List.getElem_cons_succ, List.getElem_cons_zero, List.setIfInBounds_toArray, List.set_cons_zero, List.set_cons_succ]
      refine wpAnyH_take (i := 22) (v := ?_) rfl (by kernel_rfl) (by kernel_rfl) (by kernel_rfl) (fun _ _ _ h => h) (Or.inl ⟨by kernel_rfl, ?_⟩) (by assumption) ?_
      rotate_left
      · (intro w hSw; (try dsimp only at hSw); go_simp; (try with_reducible rfl))
      try simp only [Act.put, List.getElem_toArray, List.getElem_cons_succ, List.getElem_cons_zero, List.setIfInBounds_toArray, List.set_cons_zero, List.set_cons_succ]
      refine wpAnyH_take (i := 23) (v := ?_) rfl (by kernel_rfl) (by kernel_rfl) (by kernel_rfl) (fun _ _ _ h => h) (Or.inl ⟨by kernel_rfl, ?_⟩) (by assumption) ?_
      rotate_left
      · (intro w hSw; (try dsimp only at hSw); go_simp; (try with_reducible rfl))
      try simp only [Act.put, List.getElem_toArray, List.getElem_cons_succ, List.getElem_cons_zero, List.setIfInBounds_toArray, List.set_cons_zero, List.set_cons_succ]
      refine wpAnyH_take (i := 24) (v := ?_) rfl (by kernel_rfl) (by kernel_rfl) (by kernel_rfl) (fun _ _ _ h => h) (Or.inl ⟨by kernel_rfl, ?_⟩) (by assumption) ?_
      rotate_left
      · (intro w hSw; (try dsimp only at hSw); go_simp; (try with_reducible rfl))
      try simp only [Act.put, List.getElem_toArray, List.getElem_cons_succ, List.getElem_cons_zero, List.setIfInBounds_toArray, List.set_cons_zero, List.set_cons_succ]
      refine wpAnyH_take (i := 26) (v := ?_) rfl (by kernel_rfl) (by kernel_rfl) (by kernel_rfl) (fun _ _ _ h => h) (Or.inl ⟨by kernel_rfl, ?_⟩) (by assumption) ?_
      rotate_left
      · (intro w hSw; (try dsimp only at hSw); go_simp; (try with_reducible rfl))
      try simp only [Act.put, List.getElem_toArray, List.getElem_cons_succ, List.getElem_cons_zero, List.setIfInBounds_toArray, List.set_cons_zero, List.set_cons_succ]
      refine wpAnyH_ready (rs := [25]) (by kernel_rfl) (by simp) ?_
      refine AllReadyH.cons rfl (fun K hK => ?_) AllReadyH.nil
      go_simp
      (go_at_call 18; refine (HRDY.out _ (b_drew (Below.refl _ _))).mono ?_; rintro e wq ⟨rfl, hb⟩; have HBq := Lib.hid (bdr hb); clear hb)
      go_wp2_with fail
      refine hK.out _ _ (HST6.out _ HBq.out) (fun hHeld => ?_)
      clear hK K
      try simp only [Act.put, List.getElem_toArray, List.getElem_cons_succ, List.getElem_cons_zero, List.setIfInBounds_toArray, List.set_cons_zero, List.set_cons_succ]
      refine wpAnyH_ready (rs := [27]) (by kernel_rfl) (by simp) ?_
      refine AllReadyH.cons rfl (fun K hK => ?_) AllReadyH.nil
      go_simp
      (go_at_call 17; refine (HFST.out _ HBq.out).mono ?_; rintro e wq2 ⟨rfl, hb⟩; have HBr := Lib.hid (bt HBq.out hb); clear hb)
      go_wp2_with fail
      refine hK.out _ _ (HST6.out _ HBr.out) (fun hHeld => ?_)
      clear hK K
      try simp only [Act.put, List.getElem_toArray, List.getElem_cons_succ, List.getElem_cons_zero, List.setIfInBounds_toArray, List.set_cons_zero, List.set_cons_succ]
      refine wpAnyH_take (i := 28) (v := ?_) rfl (by kernel_rfl) (by kernel_rfl) (by kernel_rfl) (fun _ _ _ h => h) (Or.inl ⟨by kernel_rfl, ?_⟩) (by assumption) ?_
      rotate_left
      · (intro w hSw; (try dsimp only at hSw); go_simp; (try with_reducible rfl))
      try simp only [Act.put, List.getElem_toArray, List.getElem_cons_succ, List.getElem_cons_zero, List.setIfInBounds_toArray, List.set_cons_zero, List.set_cons_succ]
      refine wpAnyH_take (i := 29) (v := ?_) rfl (by kernel_rfl) (by kernel_rfl) (by kernel_rfl) (fun _ _ _ h => h) (Or.inl ⟨by kernel_rfl, ?_⟩) (by assumption) ?_
      rotate_left
      · (intro w hSw; (try dsimp only at hSw); go_simp; (try with_reducible rfl))
      try simp only [Act.put, List.getElem_toArray, List.getElem_cons_succ, List.getElem_cons_zero, List.setIfInBounds_toArray, List.set_cons_zero, List.set_cons_succ]
      refine wpAnyH_take (i := 30) (v := ?_) rfl (by kernel_rfl) (by kernel_rfl) (by kernel_rfl) (fun _ _ _ h => h) (Or.inl ⟨by kernel_rfl, ?_⟩) (by assumption) ?_
      rotate_left
      · (intro w hSw; (try dsimp only at hSw); go_simp; (try with_reducible rfl))
      try simp only [Act.put, List.getElem_toArray, List.getElem_cons_succ, List.getElem_cons_zero, List.setIfInBounds_toArray, List.set_cons_zero, List.set_cons_succ]
      refine wpAnyH_done (by kernel_rfl) ?_ _
      refine NoPanic.normal ?_
      clear hHeld
      have HB8 := Lib.hid (bt HB6.out HBr.out)
      have n0 : wq2.cell? ⟨X, 0, none⟩ = some (.slice n.calA n.cals.length n.calC) := (HNP.out.below HB8.out).box 0 _ rfl
      have n1 : wq2.cell? ⟨X, 1, none⟩ = some (.slice n.namA n.names.length n.namC) := (HNP.out.below HB8.out).box 1 _ rfl
      have n2 : wq2.cell? ⟨X, 2, none⟩ = some (.slice n.opA n.ops.length n.opC) := (HNP.out.below HB8.out).box 2 _ rfl
      have n3 : wq2.cell? ⟨X, 3, none⟩ = some (.slice n.offA n.offs.length n.offC) := (HNP.out.below HB8.out).box 3 _ rfl
      have n4 : wq2.cell? ⟨X, 4, none⟩ = some (.slice n.linA n.lins.length n.linC) := (HNP.out.below HB8.out).box 4 _ rfl
      have n5 : wq2.cell? ⟨X, 5, none⟩ = some (.slice n.clsA n.clss.length n.clsC) := (HNP.out.below HB8.out).box 5 _ rfl
      go_wp2_with fail
      refine (cutofftop_any n k o cx _ (HNP.out.below HB8.out).net (HK.out.below HB8.out)).mono ?_
      rintro e w9 ⟨rfl, hb⟩
      have HB9 := Lib.hid (bt HB8.out hb)
      clear hb n0 n1 n2 n3 n4 n5
      by_cases hbig : 2000000 < cx
      · have g1 : (cx > 2000000) := hbig
        generalize cutoffTop n (k : Int) (o : Int) cx = r9
        obtain ⟨r9a, r9b⟩ := r9
        dsimp only
        go_wp2_with fail
        go_ret
        exact ⟨rfl, HNB.out _ HB9.out⟩
      have HC9 : Hid (cutoffTop n (k : Int) (o : Int) cx = (cx, 0)) := (cutoffTop_eq HS.out hk1 ho1 (by have := HCX.out.1; omega) (by omega)).trans (firstR_fix p1 p2 HCC.out)
      rw [HC9.out]
      dsimp only
      go_wp2_with fail
      go_ret
      exact ⟨rfl, HNB.out _ HB9.out⟩
    · rw [hdy]
      dsimp only
      clear hdy
      go_wp2_with fail
      try simp only [Act.put, List.getElem_toArray, List.getElem_cons_succ, List.getElem_cons_zero, List.setIfInBounds_toArray, List.set_cons_zero, List.set_cons_succ]
      go_quiet (fail)
      have HB8 := Lib.hid (below_drewN HB6.out nq)
      generalize w6.drewN nq = w8 at *
      have n0 : w8.cell? ⟨X, 0, none⟩ = some (.slice n.calA n.cals.length n.calC) := (HNP.out.below HB8.out).box 0 _ rfl
      have n1 : w8.cell? ⟨X, 1, none⟩ = some (.slice n.namA n.names.length n.namC) := (HNP.out.below HB8.out).box 1 _ rfl
      have n2 : w8.cell? ⟨X, 2, none⟩ = some (.slice n.opA n.ops.length n.opC) := (HNP.out.below HB8.out).box 2 _ rfl
      have n3 : w8.cell? ⟨X, 3, none⟩ = some (.slice n.offA n.offs.length n.offC) := (HNP.out.below HB8.out).box 3 _ rfl
      have n4 : w8.cell? ⟨X, 4, none⟩ = some (.slice n.linA n.lins.length n.linC) := (HNP.out.below HB8.out).box 4 _ rfl
      have n5 : w8.cell? ⟨X, 5, none⟩ = some (.slice n.clsA n.clss.length n.clsC) := (HNP.out.below HB8.out).box 5 _ rfl
      go_wp2_with fail
      refine (cutofftop_any n k o cx _ (HNP.out.below HB8.out).net (HK.out.below HB8.out)).mono ?_
      rintro e w9 ⟨rfl, hb⟩
      have HB9 := Lib.hid (bt HB8.out hb)
      clear hb n0 n1 n2 n3 n4 n5
      by_cases hbig : 2000000 < cx
      · have g1 : (cx > 2000000) := hbig
        generalize cutoffTop n (k : Int) (o : Int) cx = r9
        obtain ⟨r9a, r9b⟩ := r9
        dsimp only
        go_wp2_with fail
        go_ret
        exact ⟨rfl, HNB.out _ HB9.out⟩
      have HC9 : Hid (cutoffTop n (k : Int) (o : Int) cx = (cx, 0)) := (cutoffTop_eq HS.out hk1 ho1 (by have := HCX.out.1; omega) (by omega)).trans (firstR_fix p1 p2 HCC.out)
      rw [HC9.out]
      dsimp only
      go_wp2_with fail
      go_ret
      exact ⟨rfl, HNB.out _ HB9.out⟩
  · rw [hcx]
    dsimp only
    clear hcx
    go_wp2_with fail
    go_quiet (fail)
    have HB56 : Hid (Below w5.heap.size w5 (w5.drewN nq)) := below_drewN (Below.refl _ _) nq
    have HB6 := Lib.hid (below_drewN HB5.out nq)
    generalize w5.drewN nq = w6 at *
    rcases HDEL.out with ⟨dy, hdy⟩ | hdy
    · rw [hdy]
      dsimp only
      have HDY := Lib.hid hdy; clear hdy
      have HRDY : Hid (∀ wr, Below w6.heap.size w6 wr → Calls Tryz.prog 18 #[.agg #[.slice n.calA n.cals.length n.calC, .slice n.namA n.names.length n.namC, .slice n.opA n.ops.length n.opC, .slice n.offA n.offs.length n.offC, .slice n.linA n.lins.length n.linC, .slice (some ⟨kb, ko, none⟩) n.clss.length n.clsC], iV o, iV t] wr fun e w' => e = .returned (iV (readyR (offAt n o) (t : Int))) ∧ Below wr.heap.size wr w') := fun wr hb => by
        have h := readytop_any n o t wr (HNP.out.below (bt HB6.out hb)).net (HK.out.below (bt HB6.out hb))
        rw [HRT.out] at h
        simp only [netV, HA.out] at h
        exact h
      have HFST : Hid (∀ wr, Below w6.heap.size w6 wr → Calls Tryz.prog 17 #[.agg #[.slice n.calA n.cals.length n.calC, .slice n.namA n.names.length n.namC, .slice n.opA n.ops.length n.opC, .slice n.offA n.offs.length n.offC, .slice n.linA n.lins.length n.linC, .slice (some ⟨kb, ko, none⟩) n.clss.length n.clsC], iV o, iV (clsAt n k).deliver, iV (readyR (offAt n o) (t : Int)), iV dy] wr fun e w' => e = .returned (.bool true) ∧ Below wr.heap.size wr w') := fun wr hb => by
        have h := lawfirst_any n o (clsAt n k).deliver (readyR (offAt n o) (t : Int)) dy wr (HNP.out.below (bt HB6.out hb)).net HS.out.1.good ho1 p3 p4 HR0.out.1 (by have := HR0.out.2; omega) HDY.out
        simp only [netV, HA.out] at h
        exact h
      have HST6 : Hid (∀ wr, Below w6.heap.size w6 wr → (fun w' => w'.cell? ⟨X, 0, none⟩ = some (.slice n.calA n.cals.length n.calC) ∧ w'.cell? ⟨X, 1, none⟩ = some (.slice n.namA n.names.length n.namC) ∧ w'.cell? ⟨X, 2, none⟩ = some (.slice n.opA n.ops.length n.opC) ∧ w'.cell? ⟨X, 3, none⟩ = some (.slice n.offA n.offs.length n.offC) ∧ w'.cell? ⟨X, 4, none⟩ = some (.slice n.linA n.lins.length n.linC) ∧ w'.cell? ⟨X, 5, none⟩ = some (.slice (some ⟨kb, ko, none⟩) n.clss.length n.clsC) ∧ w'.cell? ⟨kb, ko + k * 3 + 1, none⟩ = some (iV (clsAt n k).cut) ∧ w'.cell? ⟨kb, ko + k * 3 + 2, none⟩ = some (iV (clsAt n k).deliver)) wr) := fun wr hb => HST.out wr (bt HB56.out hb)
      go_wp2_with fail
      refine wp_region_noPanic ?_
      refine wp_region_held_drew (S := fun w' => w'.cell? ⟨X, 0, none⟩ = some (.slice n.calA n.cals.length n.calC) ∧ w'.cell? ⟨X, 1, none⟩ = some (.slice n.namA n.names.length n.namC) ∧ w'.cell? ⟨X, 2, none⟩ = some (.slice n.opA n.ops.length n.opC) ∧ w'.cell? ⟨X, 3, none⟩ = some (.slice n.offA n.offs.length n.offC) ∧ w'.cell? ⟨X, 4, none⟩ = some (.slice n.linA n.lins.length n.linC) ∧ w'.cell? ⟨X, 5, none⟩ = some (.slice (some ⟨kb, ko, none⟩) n.clss.length n.clsC) ∧ w'.cell? ⟨kb, ko + k * 3 + 1, none⟩ = some (iV (clsAt n k).cut) ∧ w'.cell? ⟨kb, ko + k * 3 + 2, none⟩ = some (iV (clsAt n k).deliver)) (by kernel_rfl) (HST6.out _ (b_drew (Below.refl _ _))) (fun hHeld => ?_)
      refine wpAnyH_take (i := 0) (v := ?_) rfl (by kernel_rfl) (by kernel_rfl) (by kernel_rfl) (fun _ _ _ h => h) (Or.inl ⟨by kernel_rfl, ?_⟩) (by assumption) ?_
      rotate_left
      · (intro w hSw; (try dsimp only at hSw); go_simp; (try with_reducible rfl))
      try simp only [Act.put, List.getElem_toArray, List.getElem_cons_succ, List.getElem_cons_zero, List.setIfInBounds_toArray, List.set_cons_zero, List.set_cons_succ]
      refine wpAnyH_take (i := 1) (v := ?_) rfl (by kernel_rfl) (by kernel_rfl) (by kernel_rfl) (fun _ _ _ h => h) (Or.inl ⟨by kernel_rfl, ?_⟩) (by assumption) ?_
      rotate_left
      · (intro w hSw; (try dsimp only at hSw); go_simp; (try with_reducible rfl))
      try simp only [Act.put, List.getElem_toArray, List.getElem_cons_succ, List.getElem_cons_zero, List.setIfInBounds_toArray, List.set_cons_zero, List.set_cons_succ]
      refine wpAnyH_take (i := 2) (v := ?_) rfl (by kernel_rfl) (by kernel_rfl) (by kernel_rfl) (fun _ _ _ h => h) (Or.inl ⟨by kernel_rfl, ?_⟩) (by assumption) ?_
      rotate_left
      · (intro w hSw; (try dsimp only at hSw); go_simp; (try with_reducible rfl))
      try simp only [Act.put, List.getElem_toArray, List.getElem_cons_succ, List.getElem_cons_zero, List.setIfInBounds_toArray, List.set_cons_zero, List.set_cons_succ]
      refine wpAnyH_take (i := 3) (v := undef) rfl (by kernel_rfl) (by kernel_rfl) (by kernel_rfl) (fun _ _ _ h => h) (Or.inr ⟨by kernel_rfl, rfl⟩) (by assumption) ?_
      try simp only [Act.put, List.getElem_toArray, List.getElem_cons_succ, List.getElem_cons_zero, List.setIfInBounds_toArray, List.set_cons_zero, List.set_cons_succ]
      refine wpAnyH_take (i := 4) (v := undef) rfl (by kernel_rfl) (by kernel_rfl) (by kernel_rfl) (fun _ _ _ h => h) (Or.inr ⟨by kernel_rfl, rfl⟩) (by assumption) ?_
      try simp only [Act.put, List.getElem_toArray, List.getElem_cons_succ, List.getElem_cons_zero, List.setIfInBounds_toArray, List.set_cons_zero, List.set_cons_succ]
      refine wpAnyH_take (i := 5) (v := ?_) rfl (by kernel_rfl) (by kernel_rfl) (by kernel_rfl) (fun _ _ _ h => h) (Or.inl ⟨by kernel_rfl, ?_⟩) (by assumption) ?_
      rotate_left
      · (intro w hSw; (try dsimp only at hSw); go_simp; (try with_reducible rfl))
      try simp only [Act.put, List.getElem_toArray, List.getElem_cons_succ, List.getElem_cons_zero, List.setIfInBounds_toArray, List.set_cons_zero, List.set_cons_succ]
      refine wpAnyH_take (i := 6) (v := ?_) rfl (by kernel_rfl) (by kernel_rfl) (by kernel_rfl) (fun _ _ _ h => h) (Or.inl ⟨by kernel_rfl, ?_⟩) (by assumption) ?_
      rotate_left
      · (intro w hSw; (try dsimp only at hSw); go_simp; (try with_reducible rfl))
      try simp only [Act.put, List.getElem_toArray, List.getElem_cons_succ, List.getElem_cons_zero, List.setIfInBounds_toArray, List.set_cons_zero, List.set_cons_succ]
      refine wpAnyH_take (i := 7) (v := undef) rfl (by kernel_rfl) (by kernel_rfl) (by kernel_rfl) (fun _ _ _ h => h) (Or.inr ⟨by kernel_rfl, rfl⟩) (by assumption) ?_
      try simp only [Act.put, List.getElem_toArray, List.getElem_cons_succ, List.getElem_cons_zero, List.setIfInBounds_toArray, List.set_cons_zero, List.set_cons_succ]
      refine wpAnyH_take (i := 8) (v := undef) rfl (by kernel_rfl) (by kernel_rfl) (by kernel_rfl) (fun _ _ _ h => h) (Or.inr ⟨by kernel_rfl, rfl⟩) (by assumption) ?_
      try simp only [Act.put, List.getElem_toArray, List.getElem_cons_succ, List.getElem_cons_zero, List.setIfInBounds_toArray, List.set_cons_zero, List.set_cons_succ]
      refine wpAnyH_take (i := 9) (v := ?_) rfl (by kernel_rfl) (by kernel_rfl) (by kernel_rfl) (fun _ _ _ h => h) (Or.inl ⟨by kernel_rfl, ?_⟩) (by assumption) ?_
      rotate_left
      · (intro w hSw; (try dsimp only at hSw); go_simp; (try with_reducible rfl))
      try simp only [Act.put, List.getElem_toArray, List.getElem_cons_succ, List.getElem_cons_zero, List.setIfInBounds_toArray, List.set_cons_zero, List.set_cons_succ]
      refine wpAnyH_take (i := 10) (v := ?_) rfl (by kernel_rfl) (by kernel_rfl) (by kernel_rfl) (fun _ _ _ h => h) (Or.inl ⟨by kernel_rfl, ?_⟩) (by assumption) ?_
      rotate_left
      · (intro w hSw; (try dsimp only at hSw); go_simp; (try with_reducible rfl))
      try simp only [Act.put, List.getElem_toArray, List.getElem_cons_succ, List.getElem_cons_zero, List.setIfInBounds_toArray, List.set_cons_zero, List.set_cons_succ]
      refine wpAnyH_take (i := 11) (v := ?_) rfl (by kernel_rfl) (by kernel_rfl) (by kernel_rfl) (fun _ _ _ h => h) (Or.inl ⟨by kernel_rfl, ?_⟩) (by assumption) ?_
      rotate_left
      · (intro w hSw; (try dsimp only at hSw); go_simp; (try with_reducible rfl))
      try simp only [Act.put, List.getElem_toArray, List.getElem_cons_succ, List.getElem_cons_zero, List.setIfInBounds_toArray, List.set_cons_zero, List.set_cons_succ]
      refine wpAnyH_take (i := 12) (v := ?_) rfl (by kernel_rfl) (by kernel_rfl) (by kernel_rfl) (fun _ _ _ h => h) (Or.inl ⟨by kernel_rfl, ?_⟩) (by assumption) ?_
      rotate_left
      · (intro w hSw; (try dsimp only at hSw); go_simp; (try with_reducible rfl))
      try simp only [Act.put, List.getElem_toArray, List.getElem_cons_succ, List.getElem_cons_zero, List.setIfInBounds_toArray, List.set_cons_zero, List.set_cons_succ]
      refine wpAnyH_take (i := 13) (v := ?_) rfl (by kernel_rfl) (by kernel_rfl) (by kernel_rfl) (fun _ _ _ h => h) (Or.inl ⟨by kernel_rfl, ?_⟩) (by assumption) ?_
      rotate_left
      · (intro w hSw; (try dsimp only at hSw); go_simp; (try with_reducible rfl))
      try simp only [Act.put, List.getElem_toArray, List.getElem_cons_succ, List.getElem_cons_zero, List.setIfInBounds_toArray, List.set_cons_zero, List.set_cons_succ]
      refine wpAnyH_take (i := 14) (v := ?_) rfl (by kernel_rfl) (by kernel_rfl) (by kernel_rfl) (fun _ _ _ h => h) (Or.inl ⟨by kernel_rfl, ?_⟩) (by assumption) ?_
      rotate_left
      · (intro w hSw; (try dsimp only at hSw); go_simp; (try with_reducible rfl))
      try simp only [Act.put, List.getElem_toArray, List.getElem_cons_succ, List.getElem_cons_zero, List.setIfInBounds_toArray, List.set_cons_zero, List.set_cons_succ]
      refine wpAnyH_take (i := 15) (v := ?_) rfl (by kernel_rfl) (by kernel_rfl) (by kernel_rfl) (fun _ _ _ h => h) (Or.inl ⟨by kernel_rfl, ?_⟩) (by assumption) ?_
      rotate_left
      · (intro w hSw; (try dsimp only at hSw); go_simp; (try with_reducible rfl))
      try simp only [Act.put, List.getElem_toArray, List.getElem_cons_succ, List.getElem_cons_zero, List.setIfInBounds_toArray, List.set_cons_zero, List.set_cons_succ]
      refine wpAnyH_take (i := 16) (v := ?_) rfl (by kernel_rfl) (by kernel_rfl) (by kernel_rfl) (fun _ _ _ h => h) (Or.inl ⟨by kernel_rfl, ?_⟩) (by assumption) ?_
      rotate_left
      · (intro w hSw; (try dsimp only at hSw); go_simp; (try with_reducible rfl))
      try simp only [Act.put, List.getElem_toArray, List.getElem_cons_succ, List.getElem_cons_zero, List.setIfInBounds_toArray, List.set_cons_zero, List.set_cons_succ]
      refine wpAnyH_take (i := 17) (v := ?_) rfl (by kernel_rfl) (by kernel_rfl) (by kernel_rfl) (fun _ _ _ h => h) (Or.inl ⟨by kernel_rfl, ?_⟩) (by assumption) ?_
      rotate_left
      · (intro w hSw; (try dsimp only at hSw); go_simp; (try with_reducible rfl))
      try simp only [Act.put, List.getElem_toArray, List.getElem_cons_succ, List.getElem_cons_zero, List.setIfInBounds_toArray, List.set_cons_zero, List.set_cons_succ]
      refine wpAnyH_take (i := 18) (v := ?_) rfl (by kernel_rfl) (by kernel_rfl) (by kernel_rfl) (fun _ _ _ h => h) (Or.inl ⟨by kernel_rfl, ?_⟩) (by assumption) ?_
      rotate_left
      · (intro w hSw; (try dsimp only at hSw); go_simp; (try with_reducible rfl))
      try simp only [Act.put, List.getElem_toArray, List.getElem_cons_succ, List.getElem_cons_zero, List.setIfInBounds_toArray, List.set_cons_zero, List.set_cons_succ]
      refine wpAnyH_take (i := 19) (v := ?_) rfl (by kernel_rfl) (by kernel_rfl) (by kernel_rfl) (fun _ _ _ h => h) (Or.inl ⟨by kernel_rfl, ?_⟩) (by assumption) ?_
      rotate_left
      · (intro w hSw; (try dsimp only at hSw); go_simp; (try with_reducible rfl))
      try simp only [Act.put, List.getElem_toArray, List.getElem_cons_succ, List.getElem_cons_zero, List.setIfInBounds_toArray, List.set_cons_zero, List.set_cons_succ]
      refine wpAnyH_take (i := 20) (v := ?_) rfl (by kernel_rfl) (by kernel_rfl) (by kernel_rfl) (fun _ _ _ h => h) (Or.inl ⟨by kernel_rfl, ?_⟩) (by assumption) ?_
      rotate_left
      · (intro w hSw; (try dsimp only at hSw); go_simp; (try with_reducible rfl))
      try simp only [Act.put, List.getElem_toArray, List.getElem_cons_succ, List.getElem_cons_zero, List.setIfInBounds_toArray, List.set_cons_zero, List.set_cons_succ]
      refine wpAnyH_take (i := 21) (v := ?_) rfl (by kernel_rfl) (by kernel_rfl) (by kernel_rfl) (fun _ _ _ h => h) (Or.inl ⟨by kernel_rfl, ?_⟩) (by assumption) ?_
      rotate_left
      · (intro w hSw; (try dsimp only at hSw); go_simp; (try with_reducible rfl))
      try simp only [Act.put, List.getElem_toArray, List.getElem_cons_succ, List.getElem_cons_zero, List.setIfInBounds_toArray, List.set_cons_zero, List.set_cons_succ]
      refine wpAnyH_take (i := 22) (v := ?_) rfl (by kernel_rfl) (by kernel_rfl) (by kernel_rfl) (fun _ _ _ h => h) (Or.inl ⟨by kernel_rfl, ?_⟩) (by assumption) ?_
      rotate_left
      · (intro w hSw; (try dsimp only at hSw); go_simp; (try with_reducible rfl))
      try simp only [Act.put, List.getElem_toArray, List.getElem_cons_succ, List.getElem_cons_zero, List.setIfInBounds_toArray, List.set_cons_zero, List.set_cons_succ]
      refine wpAnyH_take (i := 23) (v := ?_) rfl (by kernel_rfl) (by kernel_rfl) (by kernel_rfl) (fun _ _ _ h => h) (Or.inl ⟨by kernel_rfl, ?_⟩) (by assumption) ?_
      rotate_left
      · (intro w hSw; (try dsimp only at hSw); go_simp; (try with_reducible rfl))
      try simp only [Act.put, List.getElem_toArray, List.getElem_cons_succ, List.getElem_cons_zero, List.setIfInBounds_toArray, List.set_cons_zero, List.set_cons_succ]
      refine wpAnyH_take (i := 24) (v := ?_) rfl (by kernel_rfl) (by kernel_rfl) (by kernel_rfl) (fun _ _ _ h => h) (Or.inl ⟨by kernel_rfl, ?_⟩) (by assumption) ?_
      rotate_left
      · (intro w hSw; (try dsimp only at hSw); go_simp; (try with_reducible rfl))
      try simp only [Act.put, List.getElem_toArray, List.getElem_cons_succ, List.getElem_cons_zero, List.setIfInBounds_toArray, List.set_cons_zero, List.set_cons_succ]
      refine wpAnyH_take (i := 26) (v := ?_) rfl (by kernel_rfl) (by kernel_rfl) (by kernel_rfl) (fun _ _ _ h => h) (Or.inl ⟨by kernel_rfl, ?_⟩) (by assumption) ?_
      rotate_left
      · (intro w hSw; (try dsimp only at hSw); go_simp; (try with_reducible rfl))
      try simp only [Act.put, List.getElem_toArray, List.getElem_cons_succ, List.getElem_cons_zero, List.setIfInBounds_toArray, List.set_cons_zero, List.set_cons_succ]
      refine wpAnyH_ready (rs := [25]) (by kernel_rfl) (by simp) ?_
      refine AllReadyH.cons rfl (fun K hK => ?_) AllReadyH.nil
      go_simp
      (go_at_call 18; refine (HRDY.out _ (b_drew (Below.refl _ _))).mono ?_; rintro e wq ⟨rfl, hb⟩; have HBq := Lib.hid (bdr hb); clear hb)
      go_wp2_with fail
      refine hK.out _ _ (HST6.out _ HBq.out) (fun hHeld => ?_)
      clear hK K
      try simp only [Act.put, List.getElem_toArray, List.getElem_cons_succ, List.getElem_cons_zero, List.setIfInBounds_toArray, List.set_cons_zero, List.set_cons_succ]
      refine wpAnyH_ready (rs := [27]) (by kernel_rfl) (by simp) ?_
      refine AllReadyH.cons rfl (fun K hK => ?_) AllReadyH.nil
      go_simp
      (go_at_call 17; refine (HFST.out _ HBq.out).mono ?_; rintro e wq2 ⟨rfl, hb⟩; have HBr := Lib.hid (bt HBq.out hb); clear hb)
      go_wp2_with fail
      refine hK.out _ _ (HST6.out _ HBr.out) (fun hHeld => ?_)
      clear hK K
      try simp only [Act.put, List.getElem_toArray, List.getElem_cons_succ, List.getElem_cons_zero, List.setIfInBounds_toArray, List.set_cons_zero, List.set_cons_succ]
      refine wpAnyH_take (i := 28) (v := ?_) rfl (by kernel_rfl) (by kernel_rfl) (by kernel_rfl) (fun _ _ _ h => h) (Or.inl ⟨by kernel_rfl, ?_⟩) (by assumption) ?_
      rotate_left
      · (intro w hSw; (try dsimp only at hSw); go_simp; (try with_reducible rfl))
      try simp only [Act.put, List.getElem_toArray, List.getElem_cons_succ, List.getElem_cons_zero, List.setIfInBounds_toArray, List.set_cons_zero, List.set_cons_succ]
      refine wpAnyH_take (i := 29) (v := ?_) rfl (by kernel_rfl) (by kernel_rfl) (by kernel_rfl) (fun _ _ _ h => h) (Or.inl ⟨by kernel_rfl, ?_⟩) (by assumption) ?_
      rotate_left
      · (intro w hSw; (try dsimp only at hSw); go_simp; (try with_reducible rfl))
      try simp only [Act.put, List.getElem_toArray, List.getElem_cons_succ, List.getElem_cons_zero, List.setIfInBounds_toArray, List.set_cons_zero, List.set_cons_succ]
      refine wpAnyH_take (i := 30) (v := ?_) rfl (by kernel_rfl) (by kernel_rfl) (by kernel_rfl) (fun _ _ _ h => h) (Or.inl ⟨by kernel_rfl, ?_⟩) (by assumption) ?_
      rotate_left
      · (intro w hSw; (try dsimp only at hSw); go_simp; (try with_reducible rfl))
      try simp only [Act.put, List.getElem_toArray, List.getElem_cons_succ, List.getElem_cons_zero, List.setIfInBounds_toArray, List.set_cons_zero, List.set_cons_succ]
      refine wpAnyH_done (by kernel_rfl) ?_ _
      refine NoPanic.normal ?_
      clear hHeld
      have HB8 := Lib.hid (bt HB6.out HBr.out)
      have n0 : wq2.cell? ⟨X, 0, none⟩ = some (.slice n.calA n.cals.length n.calC) := (HNP.out.below HB8.out).box 0 _ rfl
      have n1 : wq2.cell? ⟨X, 1, none⟩ = some (.slice n.namA n.names.length n.namC) := (HNP.out.below HB8.out).box 1 _ rfl
      have n2 : wq2.cell? ⟨X, 2, none⟩ = some (.slice n.opA n.ops.length n.opC) := (HNP.out.below HB8.out).box 2 _ rfl
      have n3 : wq2.cell? ⟨X, 3, none⟩ = some (.slice n.offA n.offs.length n.offC) := (HNP.out.below HB8.out).box 3 _ rfl
      have n4 : wq2.cell? ⟨X, 4, none⟩ = some (.slice n.linA n.lins.length n.linC) := (HNP.out.below HB8.out).box 4 _ rfl
      have n5 : wq2.cell? ⟨X, 5, none⟩ = some (.slice n.clsA n.clss.length n.clsC) := (HNP.out.below HB8.out).box 5 _ rfl
      go_wp2_with fail
      refine (cutofftop_any n k o 0 _ (HNP.out.below HB8.out).net (HK.out.below HB8.out)).mono ?_
      rintro e w9 ⟨rfl, hb⟩
      have HB9 := Lib.hid (bt HB8.out hb)
      clear hb n0 n1 n2 n3 n4 n5
      generalize cutoffTop n (k : Int) (o : Int) 0 = r9
      obtain ⟨r9a, r9b⟩ := r9
      dsimp only
      go_wp2_with fail
      go_ret
      exact ⟨rfl, HNB.out _ HB9.out⟩
    · rw [hdy]
      dsimp only
      clear hdy
      go_wp2_with fail
      try simp only [Act.put, List.getElem_toArray, List.getElem_cons_succ, List.getElem_cons_zero, List.setIfInBounds_toArray, List.set_cons_zero, List.set_cons_succ]
      go_quiet (fail)
      have HB8 := Lib.hid (below_drewN HB6.out nq)
      generalize w6.drewN nq = w8 at *
      have n0 : w8.cell? ⟨X, 0, none⟩ = some (.slice n.calA n.cals.length n.calC) := (HNP.out.below HB8.out).box 0 _ rfl
      have n1 : w8.cell? ⟨X, 1, none⟩ = some (.slice n.namA n.names.length n.namC) := (HNP.out.below HB8.out).box 1 _ rfl
      have n2 : w8.cell? ⟨X, 2, none⟩ = some (.slice n.opA n.ops.length n.opC) := (HNP.out.below HB8.out).box 2 _ rfl
      have n3 : w8.cell? ⟨X, 3, none⟩ = some (.slice n.offA n.offs.length n.offC) := (HNP.out.below HB8.out).box 3 _ rfl
      have n4 : w8.cell? ⟨X, 4, none⟩ = some (.slice n.linA n.lins.length n.linC) := (HNP.out.below HB8.out).box 4 _ rfl
      have n5 : w8.cell? ⟨X, 5, none⟩ = some (.slice n.clsA n.clss.length n.clsC) := (HNP.out.below HB8.out).box 5 _ rfl
      go_wp2_with fail
      refine (cutofftop_any n k o 0 _ (HNP.out.below HB8.out).net (HK.out.below HB8.out)).mono ?_
      rintro e w9 ⟨rfl, hb⟩
      have HB9 := Lib.hid (bt HB8.out hb)
      clear hb n0 n1 n2 n3 n4 n5
      generalize cutoffTop n (k : Int) (o : Int) 0 = r9
      obtain ⟨r9a, r9b⟩ := r9
      dsimp only
      go_wp2_with fail
      go_ret
      exact ⟨rfl, HNB.out _ HB9.out⟩
end Go.Proofs.YtldkmljjmnaefaaGreatDoor
