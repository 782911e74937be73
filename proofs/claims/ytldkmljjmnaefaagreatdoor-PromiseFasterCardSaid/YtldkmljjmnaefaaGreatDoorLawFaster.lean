/-
  The walk over PromiseFaster. (Printed by gen_faster.py.)
-/
import Derived.Test.YtldkmljjmnaefaaGreatDoorPp
namespace Go.Proofs.YtldkmljjmnaefaaGreatDoor
open Go.RowKit

theorem info_off : (Tryz.prog.info? 49).map (fun i => (i.zero, i.size, i.bytes)) = some (some (.agg #[sV [], iV 0, iV 0, iV 0, iV 0, iV 0, .slice none 0 0]), 7, 80) := by kernel_rfl
theorem src_any {P : Program} {w : World} {tx e' : TypeId} (size : Nat) (h0 : 0 < size) (hk : P.underlying tx = some (.slice e')) {A : Option Addr} {m c : Nat} {xs : List Value} (h : Rd w A xs) (hn : xs.length = m * size) (h1 : ∀ u ∈ xs, u.oneCell' = true) : Src P size tx (.slice A m c) m xs w := by
  cases A with
  | none =>
    rcases h with rfl | ⟨b, off, he, _⟩
    · have hm : m = 0 := by
        rcases Nat.eq_zero_or_pos m with h | h
        · exact h
        · have := Nat.mul_pos h h0
          simp at hn
          omega
      subst hm
      exact Src.ofNil w hk c
    · cases he
  | some a =>
    rcases h with rfl | ⟨b, off, he, hb, hc⟩
    · have hm : m = 0 := by
        rcases Nat.eq_zero_or_pos m with h | h
        · exact h
        · have := Nat.mul_pos h h0
          simp at hn
          omega
      subst hm
      exact Src.ofSlice w hk a 0 c [] (by simp) (fun j u hu => by simp at hu) (fun u hu => by cases hu)
    · cases he
      exact src_k size hk (.inr ⟨b, off, rfl, hb, hc⟩) hn h1
theorem one_off (l : List Off) : ∀ u ∈ l.flatMap encOff, u.oneCell' = true := fun u hu => by
  obtain ⟨o, _, ho⟩ := List.mem_flatMap.1 hu
  simp [encOff] at ho
  rcases ho with rfl | rfl | rfl | rfl | rfl | rfl | rfl <;> rfl
theorem flat_len7 (l : List Off) : (l.flatMap encOff).length = l.length * 7 := by
  induction l with
  | nil => rfl
  | cons a l ih => rw [List.flatMap_cons, List.length_append, ih, encOff_len, List.length_cons]; omega
theorem LePair.swap {p q : Int × Int} (h : LePair p q) : (q.2 != 0) = true ∨ (q.2 = 0 ∧ (p.2 != 0) = true) ∨ (q.2 = 0 ∧ p.2 = 0 ∧ p.1 ≤ q.1) := by
  by_cases hq : q.2 = 0
  · by_cases hp : p.2 = 0
    · rcases h with h | ⟨_, h⟩ | ⟨_, _, h⟩
      · simp [hp] at h
      · simp [hq] at h
      · exact .inr (.inr ⟨hq, hp, h⟩)
    · exact .inr (.inl ⟨hq, by simpa using hp⟩)
  · exact .inl (by simpa using hq)
/-- The copy with other minutes, in its box. -/
structure QBox (w : World) (Y : Nat) (n : Net) (i : Nat) (v : Int) (g c : Nat) : Prop where
  row : w.heap[Y]? = some (.cells #[.slice n.calA n.cals.length n.calC, .slice n.namA n.names.length n.namC, .slice n.opA n.ops.length n.opC, .slice (some ⟨g, 0, none⟩) n.offs.length c, .slice n.linA n.lins.length n.linC, .slice n.clsA n.clss.length n.clsC] 29 (0, 0))
  net : NetIn w (quickN n i v (some ⟨g, 0, none⟩) c)
theorem QBox.below {w w' : World} {Y : Nat} {n : Net} {i : Nat} {v : Int} {g c : Nat} (h : QBox w Y n i v g c) (hb : Below w.heap.size w w') : QBox w' Y n i v g c := ⟨(hb.block _ (block_lt h.row)).trans h.row, h.net.below hb⟩
theorem quick_val (n : Net) (i : Nat) (v : Int) (g c : Nat) : netV (quickN n i v (some ⟨g, 0, none⟩) c) = .agg #[.slice n.calA n.cals.length n.calC, .slice n.namA n.names.length n.namC, .slice n.opA n.ops.length n.opC, .slice (some ⟨g, 0, none⟩) n.offs.length c, .slice n.linA n.lins.length n.linC, .slice n.clsA n.clss.length n.clsC] := by
  show Value.agg #[_, _, _, .slice _ (quickN n i v (some ⟨g, 0, none⟩) c).offs.length _, _, _] = _
  rw [quick_len]
  rfl
set_option maxHeartbeats 8000000 in
set_option maxRecDepth 100000 in
theorem faster_any (n : Net) (A : Option Addr) (c : Nat) (nx : List NsC) (a b c8 wh ls x : Nat) (w : World) (hn : NetIn w n) (hT : Tab w A nx) (hx : nx.length ≤ maxLen) (hk : KW w) (ba1 : a < 256) (bb1 : b < 256) (bc1 : c8 < 256) (bw1 : wh < 256) (bl1 : ls < 256) (bx1 : x < 4294967296) :
    Calls Tryz.prog 5 #[netV n, .slice A nx.length c, .int .u8 a, .int .u8 b, .int .u8 c8, .int .u8 wh, .int .u8 ls, .int .u32 x] w fun e w' => e = .returned (.bool true) ∧ Below w.heap.size w w' := by
  obtain ⟨i0, hi0, hz0, hz1, hz2⟩ := info_parts info_off
  have hb0 := ba w (netO n)
  have hx0 := heap_alloc_new w (netO n)
  have HNP : Hid (NetP (w.alloc (netO n)) w.heap.size n) := ⟨fun i v hv => (cell_of_row _ _ _ _ _ _ hx0).trans hv, hn.below hb0⟩
  have HT := Lib.hid (hT.below hb0)
  have HK := Lib.hid (hk.below hb0)
  have HXL := Lib.hid hx
  have HB0 := Lib.hid hb0
  have hcl := hn.lens.2.2.2.2.2
  unfold maxLen at hcl
  clear hn hT hk hx hb0 hx0
  go_enter Tryz.func5, Tryz.ntmps5
  go_upto_region 1 with fail
  change Code.wp _ _ _ _ (w.alloc (netO n))
  generalize (w.alloc (netO n)) = W at *
  generalize hX : w.heap.size = X at *
  have HX := Lib.hid hX; clear hX
  have HNB : Hid (∀ wr, Below W.heap.size W wr → Below w.heap.size w wr) := fun wr hb => by have h := HB0.out; rw [← HX.out] at h; exact bt h hb
  go_wp2_with fail
  refine (head_any _ HK.out).mono ?_
  rintro e w1 ⟨rfl, hb⟩
  have HB1 := Lib.hid hb
  clear hb
  have n0 : w1.cell? ⟨X, 0, none⟩ = some (.slice n.calA n.cals.length n.calC) := (HNP.out.below HB1.out).box 0 _ rfl
  have n1 : w1.cell? ⟨X, 1, none⟩ = some (.slice n.namA n.names.length n.namC) := (HNP.out.below HB1.out).box 1 _ rfl
  have n2 : w1.cell? ⟨X, 2, none⟩ = some (.slice n.opA n.ops.length n.opC) := (HNP.out.below HB1.out).box 2 _ rfl
  have n3 : w1.cell? ⟨X, 3, none⟩ = some (.slice n.offA n.offs.length n.offC) := (HNP.out.below HB1.out).box 3 _ rfl
  have n4 : w1.cell? ⟨X, 4, none⟩ = some (.slice n.linA n.lins.length n.linC) := (HNP.out.below HB1.out).box 4 _ rfl
  have n5 : w1.cell? ⟨X, 5, none⟩ = some (.slice n.clsA n.clss.length n.clsC) := (HNP.out.below HB1.out).box 5 _ rfl
  go_wp2_with fail
  refine (right_any n A c nx _ (HNP.out.below HB1.out).net (HT.out.below HB1.out) HXL.out).mono ?_
  rintro e w2 ⟨⟨b1, rfl, h1⟩, hb⟩
  have H1 := Lib.hid h1
  have HB2 := Lib.hid (bt HB1.out hb)
  clear h1 hb n0 n1 n2 n3 n4 n5
  cases b1
  · go_wp2_with fail
    go_ret
    exact ⟨rfl, HNB.out _ HB2.out⟩
  have HP : Hid (RightP n nx) := H1.out rfl
  clear H1
  obtain ⟨-, -, N0, N6⟩ := HP.out
  have HS : Hid (Sound n) := HP.out.1
  have HF : Hid (Formed n nx) := HP.out.2.1
  have n5 : w2.cell? ⟨X, 5, none⟩ = some (.slice n.clsA n.clss.length n.clsC) := (HNP.out.below HB2.out).box 5 _ rfl
  by_cases hc0 : n.clss.length = 0
  · have z0 : ((n.clss.length : Int) == 0) = true := by rw [beq_iff_eq]; omega
    clear hc0
    go_wp2_with fail
    go_ret
    exact ⟨rfl, HNB.out _ HB2.out⟩
  obtain ⟨o, ho⟩ : ∃ o, o = a % n.offs.length := ⟨_, rfl⟩
  obtain ⟨d, hd⟩ : ∃ d, d = b % n.offs.length := ⟨_, rfl⟩
  obtain ⟨k, hk⟩ : ∃ k, k = c8 % n.clss.length := ⟨_, rfl⟩
  have ho1 : o < n.offs.length := by rw [ho]; exact Nat.mod_lt _ N0
  have hd1 : d < n.offs.length := by rw [hd]; exact Nat.mod_lt _ N0
  have hk1 : k < n.clss.length := by rw [hk]; exact Nat.mod_lt _ (by omega)
  have mo : Int.tmod (a : Int) (n.offs.length : Int) = (o : Int) := by rw [ho]; exact mod_nat _ _
  have md : Int.tmod (b : Int) (n.offs.length : Int) = (d : Int) := by rw [hd]; exact mod_nat _ _
  have mk : Int.tmod (c8 : Int) (n.clss.length : Int) = (k : Int) := by rw [hk]; exact mod_nat _ _
  have wa : IntKind.i64.wrap (a : Int) = (a : Int) := IntWalk.i64_in _ (by omega)
  have wb : IntKind.i64.wrap (b : Int) = (b : Int) := IntWalk.i64_in _ (by omega)
  have wc : IntKind.i64.wrap (c8 : Int) = (c8 : Int) := IntWalk.i64_in _ (by omega)
  have zo : ((n.offs.length : Int) == 0) = false := by rw [beq_eq_false_iff_ne]; omega
  have zk : ((n.clss.length : Int) == 0) = false := by rw [beq_eq_false_iff_ne]; omega
  have zo' : ¬ (n.offs.length : Int) = 0 := by omega
  have zk' : ¬ (n.clss.length : Int) = 0 := by omega
  clear ho hd hk
  obtain ⟨i, hi⟩ : ∃ i, i = wh % n.offs.length := ⟨_, rfl⟩
  have hi1 : i < n.offs.length := by rw [hi]; exact Nat.mod_lt _ N0
  have mi : Int.tmod (wh : Int) (n.offs.length : Int) = (i : Int) := by rw [hi]; exact mod_nat _ _
  have ww : IntKind.i64.wrap (wh : Int) = (wh : Int) := IntWalk.i64_in _ (by omega)
  have wl : IntKind.i64.wrap (ls : Int) = (ls : Int) := IntWalk.i64_in _ (by omega)
  obtain ⟨t, ht⟩ : ∃ t, t = x % 100001 := ⟨_, rfl⟩
  have ht1 : t ≤ 100000 := by omega
  have mt : Int.tmod (x : Int) 100001 = (t : Int) := by rw [ht]; exact mod_nat x 100001
  have wx : IntKind.i64.wrap (x : Int) = (x : Int) := IntWalk.i64_in _ (by omega)
  obtain ⟨-, -, -, hm1, hm2⟩ := HS.out.1.good.off _ (List.mem_of_getElem? (offAt_get hi1))
  obtain ⟨mn, hmn⟩ := Int.eq_ofNat_of_zero_le (show 0 ≤ (offAt n i).minutes by omega)
  rw [hmn] at hm1 hm2
  obtain ⟨r, hr⟩ : ∃ r, r = ls % mn := ⟨_, rfl⟩
  have hr1 : r < mn := by rw [hr]; exact Nat.mod_lt _ (by omega)
  have ml : Int.tmod (ls : Int) (mn : Int) = (r : Int) := by rw [hr]; exact mod_nat _ _
  have wrr : IntKind.i64.wrap (r : Int) = (r : Int) := IntWalk.i64_in _ (by omega)
  have w1r : IntKind.i64.wrap (1 + (r : Int)) = 1 + (r : Int) := IntWalk.i64_in _ (by omega)
  have zm : ((mn : Int) == 0) = false := by rw [beq_eq_false_iff_ne]; omega
  have zm' : ¬ (mn : Int) = 0 := by omega
  have zn : ¬ mn = 0 := by omega
  have HV : Hid (1 ≤ (1 + (r : Int)) ∧ (1 + (r : Int)) ≤ (offAt n i).minutes) := by rw [hmn]; exact ⟨by omega, by omega⟩
  have HMN := Lib.hid hmn
  clear hi ht hr hmn n5
  have n0 : w2.cell? ⟨X, 0, none⟩ = some (.slice n.calA n.cals.length n.calC) := (HNP.out.below HB2.out).box 0 _ rfl
  have n1 : w2.cell? ⟨X, 1, none⟩ = some (.slice n.namA n.names.length n.namC) := (HNP.out.below HB2.out).box 1 _ rfl
  have n2 : w2.cell? ⟨X, 2, none⟩ = some (.slice n.opA n.ops.length n.opC) := (HNP.out.below HB2.out).box 2 _ rfl
  have n3 : w2.cell? ⟨X, 3, none⟩ = some (.slice n.offA n.offs.length n.offC) := (HNP.out.below HB2.out).box 3 _ rfl
  have n4 : w2.cell? ⟨X, 4, none⟩ = some (.slice n.linA n.lins.length n.linC) := (HNP.out.below HB2.out).box 4 _ rfl
  have n5 : w2.cell? ⟨X, 5, none⟩ = some (.slice n.clsA n.clss.length n.clsC) := (HNP.out.below HB2.out).box 5 _ rfl
  have HOF := Lib.hid (HNP.out.below HB2.out).net.offs
  go_upto_region 9 with fail
  have hY := heap_alloc_new w2 (netO n)
  have hbY := ba w2 (netO n)
  have HNP3 := Lib.hid ((HNP.out.below HB2.out).below hbY)
  have HBY := Lib.hid hbY
  have n3b : (w2.alloc (netO n)).cell? ⟨X, 3, none⟩ = some (.slice n.offA n.offs.length n.offC) := HNP3.out.box 3 _ rfl
  have HY3 := Lib.hid hY
  have hYs : w2.heap.size < (w2.alloc (netO n)).heap.size := block_lt hY
  clear hY hbY n0 n1 n2 n3 n4 n5
  change Code.wp _ _ _ _ (w2.alloc (netO n))
  generalize (w2.alloc (netO n)) = W3 at *
  generalize hYe : w2.heap.size = Y at *
  have HYE := Lib.hid hYe; clear hYe
  have HYS := Lib.hid hYs; clear hYs
  have o5 : Hid ((W3.alloc (.cells #[] 49)).ownsRow W3.heap.size 49 7 (.slice (some ⟨W3.heap.size, 0, none⟩) 0 0) 0 []) := ⟨rfl, .inr ⟨W3.heap.size, 0, #[], rfl, Nat.le_refl _, heap_alloc_new _ _, Nat.le_refl _, Nat.zero_le _, rfl, rfl⟩⟩
  have s5 := Lib.hid (HNP3.out.net.offs.below (ba W3 (.cells #[] 49)))
  have n3c : (W3.alloc (.cells #[] 49)).cell? ⟨X, 3, none⟩ = some (.slice n.offA n.offs.length n.offC) := (HNP3.out.below (ba W3 (.cells #[] 49))).box 3 _ rfl
  go_upto_region 10 with (at_builtin; go_must (refine wpList_app (by rfl) (.tmp 66) (.tmp 68) 25 25 (by rfl) W3.heap.size 49 i0 _ 7 80 Tryz.underlying25 hi0 hz0 hz1 hz2 (by rfl) _ 0 _ (by rfl) o5.out _ (by rfl) n.offs.length _ (src_any 7 (by decide) Tryz.underlying25 s5.out (flat_len7 _) (one_off _)) (by unfold maxLen; omega) (by omega) (by simp) ?_; intro A5 c5 w5 ho hgr _; simp only [Nat.zero_add, List.nil_append] at ho; simp only [Nat.zero_add]; obtain ⟨g, hg, hg1, hg2, hgf, hgc⟩ := own_blk ho N0; subst hg; have HO5 := Lib.hid ho; have HG1 := Lib.hid hg1; have HB5 : Hid (Below W3.heap.size W3 w5) := app_below (ba W3 _) (Nat.le_refl _) o5.out (Nat.le_refl _) hgr; have hY5 : w5.heap[Y]? = some (netO n) := (HB5.out.block Y HYS.out).trans HY3.out; have HY5 := Lib.hid hY5; have y3 := cell_of_row _ _ 3 _ _ _ hY5; have fy3 := frozen_row hY5 3; clear ho hgr hg1 hg2 hgf hgc hY5))
  clear y3 fy3 n3b n3c
  have HB6 : Hid (Below Y w2 (w5.setCell ⟨Y, 3, none⟩ (.slice (some ⟨g, 0, none⟩) n.offs.length c5))) := (HBY.out.trans (HB5.out.mono (Nat.le_of_lt HYS.out))).setCell (Nat.le_refl _) _
  have hY6 := row_set HY5.out 3 (.slice (some ⟨g, 0, none⟩) n.offs.length c5)
  have HO6 : Hid ((w5.setCell ⟨Y, 3, none⟩ (.slice (some ⟨g, 0, none⟩) n.offs.length c5)).ownsRow W3.heap.size 49 7 (.slice (some ⟨g, 0, none⟩) n.offs.length c5) n.offs.length (n.offs.flatMap encOff)) := HO5.out.kept (grown_set w5 Y 3 (.slice (some ⟨g, 0, none⟩) n.offs.length c5)) (.inr (fun e => by have h1 := (HO5.out.lt _ e).1; have h2 := HYS.out; omega))
  have HY6 := Lib.hid hY6; clear hY6
  change Code.wp _ _ _ _ (w5.setCell ⟨Y, 3, none⟩ (.slice (some ⟨g, 0, none⟩) n.offs.length c5))
  clear HY5 HO5
  generalize (w5.setCell ⟨Y, 3, none⟩ (.slice (some ⟨g, 0, none⟩) n.offs.length c5)) = w6 at *
  have HB6' : Hid (Below w2.heap.size w2 w6) := by show Below _ _ _; rw [HYE.out]; exact HB6.out
  have HNP6 : Hid (NetP w6 X n) := (HNP.out.below HB2.out).below HB6'.out
  have n3 : w6.cell? ⟨X, 3, none⟩ = some (.slice n.offA n.offs.length n.offC) := HNP6.out.box 3 _ rfl
  obtain ⟨-, eb, eo, hA, -, -, hec⟩ := elem_at encOff_len HNP6.out.net.offs (offAt_get hi1) (by omega)
  have e5 : w6.cell? ⟨eb, eo + i * 7 + 5, none⟩ = some (iV mn) := (hec 5 _ rfl).trans (by rw [HMN.out])
  obtain ⟨g', hg', -, -, hgf, hgc⟩ := own_blk HO6.out N0
  cases hg'
  have q5 : w6.cell? ⟨g, i * 7 + 5, none⟩ = some (iV mn) := by
    refine hgc _ _ ?_
    rw [flat_get encOff 7 encOff_len n.offs i 5 hi1 (by omega)]
    have h5 := offAt_get hi1
    rw [List.getElem?_eq_getElem hi1] at h5
    rw [Option.some.inj h5, ← HMN.out]
    rfl
  have f5 := hgf (i * 7 + 5)
  have y3 : w6.cell? ⟨Y, 3, none⟩ = some (.slice (some ⟨g, 0, none⟩) n.offs.length c5) := cell_of_row _ _ 3 _ _ _ HY6.out
  rw [hA] at n3
  clear hec hgf hgc hA
  have i0' : (0 : Int) ≤ (i : Int) := by omega
  have i1' : (i : Int) < (n.offs.length : Int) := by omega
  go_wp2_with fail
  go_still_tail 15, (by kernel_rfl)
  go_upto_region 12 with fail
  have HWY : Hid (w2.heap.size ≤ g ∧ Y < g) := ⟨Nat.le_trans HBY.out.size HG1.out, Nat.lt_of_lt_of_le HYS.out HG1.out⟩
  have HB7 : Hid (Below w2.heap.size w2 ((w6.setCell ⟨g, i * 7 + 5, none⟩ (.int .i64 (1 + (r : Int)))).drew)) := b_drew (HB6'.out.setCell HWY.out.1 _)
  have HO7 : Hid (((w6.setCell ⟨g, i * 7 + 5, none⟩ (.int .i64 (1 + (r : Int)))).drew).ownsRow W3.heap.size 49 7 (.slice (some ⟨g, 0, none⟩) n.offs.length c5) n.offs.length ((n.offs.flatMap encOff).set (i * 7 + 5) (iV (1 + (r : Int))))) := own_below (own_store HO6.out (i * 7 + 5) (iV (1 + (r : Int)))) (b_drew (Below.refl _ _))
  have HY7 : Hid (((w6.setCell ⟨g, i * 7 + 5, none⟩ (.int .i64 (1 + (r : Int)))).drew).heap[Y]? = some (.cells #[.slice n.calA n.cals.length n.calC, .slice n.namA n.names.length n.namC, .slice n.opA n.ops.length n.opC, .slice (some ⟨g, 0, none⟩) n.offs.length c5, .slice n.linA n.lins.length n.linC, .slice n.clsA n.clss.length n.clsC] 29 (0, 0))) := row_other HY6.out (by have := HWY.out.2; omega) _ _
  have HQ : Hid (QBox ((w6.setCell ⟨g, i * 7 + 5, none⟩ (.int .i64 (1 + (r : Int)))).drew) Y n i (1 + (r : Int)) g c5) := ⟨HY7.out, quick_in (HNP.out.below HB2.out).net HB7.out hi1 (by constructor <;> omega) (rd_own HO7.out)⟩
  have HB3 : Hid (Below W.heap.size W ((w6.setCell ⟨g, i * 7 + 5, none⟩ (.int .i64 (1 + (r : Int)))).drew)) := bt HB2.out HB7.out
  change Code.wp _ _ _ _ ((w6.setCell ⟨g, i * 7 + 5, none⟩ (.int .i64 (1 + (r : Int)))).drew)
  clear HO7 HY7 HB7 HO6 HY6 HB6 HB6' HNP6 e5 q5 f5 y3 n3 o5 s5 HNP3 HY3 HOF
  generalize ((w6.setCell ⟨g, i * 7 + 5, none⟩ (.int .i64 (1 + (r : Int)))).drew) = w7 at *
  have HQS : Hid (Sound (quickN n i (1 + (r : Int)) (some ⟨g, 0, none⟩) c5)) := quick_sound HS.out hi1 HV.out.1 HV.out.2
  have HQF : Hid (Formed (quickN n i (1 + (r : Int)) (some ⟨g, 0, none⟩) c5) nx) := quick_formed HF.out
  have HQQ : Hid (Quick (quickN n i (1 + (r : Int)) (some ⟨g, 0, none⟩) c5) n) := quick_quick HS.out hi1 HV.out.2
  have HQV := Lib.hid (quick_val n i (1 + (r : Int)) g c5)
  have HQL := Lib.hid (quick_len n i (1 + (r : Int)) (some ⟨g, 0, none⟩) c5)
  have HQK : Hid (∀ o, calAt (quickN n i (1 + (r : Int)) (some ⟨g, 0, none⟩) c5) o = calAt n o) := fun o => quick_cal o
  have HQC : Hid ((quickN n i (1 + (r : Int)) (some ⟨g, 0, none⟩) c5).clss = n.clss) := rfl
  have HQD : Hid (clsAt (quickN n i (1 + (r : Int)) (some ⟨g, 0, none⟩) c5) k = clsAt n k) := rfl
  generalize hqm : quickN n i (1 + (r : Int)) (some ⟨g, 0, none⟩) c5 = m at *
  have HQM := Lib.hid hqm; clear hqm
  have HW1 := Lib.hid (wayTop_eq HS.out HF.out ho1 hd1 (t := (t : Int)) (by omega) (by omega))
  have HW2 := Lib.hid (wayTop_eq HQS.out HQF.out (by rw [HQL.out]; exact ho1) (by rw [HQL.out]; exact hd1) (t := (t : Int)) (by omega) (by omega))
  have HD1 := Lib.hid (deliveryTop_eq HS.out hk1 hd1 (t := (t : Int)) (by omega) (by omega))
  have HD2 := Lib.hid (deliveryTop_eq HQS.out (k := k) (o := d) (by rw [HQC.out]; exact hk1) (by rw [HQL.out]; exact hd1) (t := (t : Int)) (by omega) (by omega))
  have HLT := Lib.hid (wayR_later HQQ.out HS.out.1.good HF.out hd1 19 o (t : Int) (t : Int) ho1 (Int.le_refl _))
  have HOK := Lib.hid (wayR_ok (n := n) (nx := nx) (d := d) 19 o (t : Int))
  have HLD : Hid (LePair (deliveryR (calAt m d) (offAt m d) (clsAt m k) (t : Int)) (deliveryR (calAt n d) (offAt n d) (clsAt n k) (t : Int))) := by
    show LePair _ _
    unfold deliveryR
    rw [HQD.out, HQK.out]
    exact first_le (cls_ok HS.out hk1).2.2.1 (cls_ok HS.out hk1).2.2.2 (HQQ.out.ready d hd1 _ _ (Int.le_refl _))
  rw [← HD1.out, ← HD2.out] at HLD
  rw [← HW1.out, ← HW2.out] at HLT
  rw [← HW1.out] at HOK
  clear HW1 HW2 HD1 HD2
  have n0 : w7.cell? ⟨X, 0, none⟩ = some (.slice n.calA n.cals.length n.calC) := (HNP.out.below HB3.out).box 0 _ rfl
  have n1 : w7.cell? ⟨X, 1, none⟩ = some (.slice n.namA n.names.length n.namC) := (HNP.out.below HB3.out).box 1 _ rfl
  have n2 : w7.cell? ⟨X, 2, none⟩ = some (.slice n.opA n.ops.length n.opC) := (HNP.out.below HB3.out).box 2 _ rfl
  have n3 : w7.cell? ⟨X, 3, none⟩ = some (.slice n.offA n.offs.length n.offC) := (HNP.out.below HB3.out).box 3 _ rfl
  have n4 : w7.cell? ⟨X, 4, none⟩ = some (.slice n.linA n.lins.length n.linC) := (HNP.out.below HB3.out).box 4 _ rfl
  have n5 : w7.cell? ⟨X, 5, none⟩ = some (.slice n.clsA n.clss.length n.clsC) := (HNP.out.below HB3.out).box 5 _ rfl
  go_wp2_with fail
  refine (way_any n A c nx o d t _ (HNP.out.below HB3.out).net (HT.out.below HB3.out) HXL.out (HK.out.below HB3.out)).mono ?_
  rintro e w8 ⟨hb, A1, c1, rfl, hr1⟩
  have HB4 := Lib.hid (bt HB3.out hb)
  have HQ8 := Lib.hid (HQ.out.below hb)
  have HR1 := Lib.hid hr1
  clear hb hr1 n0 n1 n2 n3 n4 n5
  have n0 : w8.cell? ⟨Y, 0, none⟩ = some (.slice n.calA n.cals.length n.calC) := cell_of_row _ _ 0 _ _ _ (HQ8.out).row
  have n1 : w8.cell? ⟨Y, 1, none⟩ = some (.slice n.namA n.names.length n.namC) := cell_of_row _ _ 1 _ _ _ (HQ8.out).row
  have n2 : w8.cell? ⟨Y, 2, none⟩ = some (.slice n.opA n.ops.length n.opC) := cell_of_row _ _ 2 _ _ _ (HQ8.out).row
  have n3 : w8.cell? ⟨Y, 3, none⟩ = some (.slice (some ⟨g, 0, none⟩) n.offs.length c5) := cell_of_row _ _ 3 _ _ _ (HQ8.out).row
  have n4 : w8.cell? ⟨Y, 4, none⟩ = some (.slice n.linA n.lins.length n.linC) := cell_of_row _ _ 4 _ _ _ (HQ8.out).row
  have n5 : w8.cell? ⟨Y, 5, none⟩ = some (.slice n.clsA n.clss.length n.clsC) := cell_of_row _ _ 5 _ _ _ (HQ8.out).row
  have hcall := way_any m A c nx o d t w8 (by rw [← HQM.out]; exact HQ8.out.net) (HT.out.below HB4.out) HXL.out (HK.out.below HB4.out)
  rw [HQV.out] at hcall
  have HCALL := Lib.hid hcall; clear hcall
  go_wp2_with fail
  refine HCALL.out.mono ?_
  clear HCALL
  rintro e w9 ⟨hb, A2, c2, rfl, hr2⟩
  have HB5 := Lib.hid (bt HB4.out hb)
  have HQ9 := Lib.hid (HQ8.out.below hb)
  have HR1' := Lib.hid (HR1.out.below hb)
  have HR2 := Lib.hid hr2
  clear hb hr2 HR1 n0 n1 n2 n3 n4 n5
  have n0 : w9.cell? ⟨X, 0, none⟩ = some (.slice n.calA n.cals.length n.calC) := (HNP.out.below HB5.out).box 0 _ rfl
  have n1 : w9.cell? ⟨X, 1, none⟩ = some (.slice n.namA n.names.length n.namC) := (HNP.out.below HB5.out).box 1 _ rfl
  have n2 : w9.cell? ⟨X, 2, none⟩ = some (.slice n.opA n.ops.length n.opC) := (HNP.out.below HB5.out).box 2 _ rfl
  have n3 : w9.cell? ⟨X, 3, none⟩ = some (.slice n.offA n.offs.length n.offC) := (HNP.out.below HB5.out).box 3 _ rfl
  have n4 : w9.cell? ⟨X, 4, none⟩ = some (.slice n.linA n.lins.length n.linC) := (HNP.out.below HB5.out).box 4 _ rfl
  have n5 : w9.cell? ⟨X, 5, none⟩ = some (.slice n.clsA n.clss.length n.clsC) := (HNP.out.below HB5.out).box 5 _ rfl
  go_wp2_with fail
  refine (deliverytop_any n k d t _ (HNP.out.below HB5.out).net (HK.out.below HB5.out)).mono ?_
  rintro e w10 ⟨rfl, hb⟩
  have HB6 := Lib.hid (bt HB5.out hb)
  have HQ10 := Lib.hid (HQ9.out.below hb)
  have HR1b := Lib.hid (HR1'.out.below hb)
  have HR2b := Lib.hid (HR2.out.below hb)
  clear hb HR1' HR2 n0 n1 n2 n3 n4 n5
  have n0 : w10.cell? ⟨Y, 0, none⟩ = some (.slice n.calA n.cals.length n.calC) := cell_of_row _ _ 0 _ _ _ (HQ10.out).row
  have n1 : w10.cell? ⟨Y, 1, none⟩ = some (.slice n.namA n.names.length n.namC) := cell_of_row _ _ 1 _ _ _ (HQ10.out).row
  have n2 : w10.cell? ⟨Y, 2, none⟩ = some (.slice n.opA n.ops.length n.opC) := cell_of_row _ _ 2 _ _ _ (HQ10.out).row
  have n3 : w10.cell? ⟨Y, 3, none⟩ = some (.slice (some ⟨g, 0, none⟩) n.offs.length c5) := cell_of_row _ _ 3 _ _ _ (HQ10.out).row
  have n4 : w10.cell? ⟨Y, 4, none⟩ = some (.slice n.linA n.lins.length n.linC) := cell_of_row _ _ 4 _ _ _ (HQ10.out).row
  have n5 : w10.cell? ⟨Y, 5, none⟩ = some (.slice n.clsA n.clss.length n.clsC) := cell_of_row _ _ 5 _ _ _ (HQ10.out).row
  have hcall := deliverytop_any m k d t w10 (by rw [← HQM.out]; exact HQ10.out.net) (HK.out.below HB6.out)
  rw [HQV.out] at hcall
  have HCALL := Lib.hid hcall; clear hcall
  go_wp2_with fail
  refine HCALL.out.mono ?_
  clear HCALL
  rintro e w11 ⟨rfl, hb⟩
  have HB7 := Lib.hid (bt HB6.out hb)
  have HR1c := Lib.hid (HR1b.out.below hb)
  have HR2c := Lib.hid (HR2b.out.below hb)
  clear hb HR1b HR2b HQ8 HQ9 HQ10 HQ n0 n1 n2 n3 n4 n5
  generalize wayTop n nx (o : Int) (d : Int) (t : Int) = r1 at *
  generalize wayTop m nx (o : Int) (d : Int) (t : Int) = r2 at *
  generalize deliveryTop n (k : Int) (d : Int) (t : Int) = p1 at *
  generalize deliveryTop m (k : Int) (d : Int) (t : Int) = p2 at *
  obtain ⟨e1, l1⟩ := r1
  obtain ⟨e2, l2⟩ := r2
  obtain ⟨p1a, p1b⟩ := p1
  obtain ⟨p2a, p2b⟩ := p2
  dsimp only at *
  have hld := HLD.out.swap
  clear HLD
  dsimp only at hld
  have go_e : ∀ W', (Ending.returned (.bool true) : Ending) = .returned (.bool true) ∧ (Below W.heap.size W W' → Below w.heap.size w W') := fun W' => ⟨rfl, HNB.out W'⟩
  clear go_e
  rcases hld with g1 | ⟨rfl, g1⟩ | ⟨rfl, rfl, g1⟩
  · by_cases h1 : e1 = 0
    case neg =>
      have f1 : (e1 == 0) = false := by simpa using h1
      clear h1
      go_wp2_with fail
      go_quiet (fail)
      go_wp2_with fail
      go_ret
      exact ⟨rfl, HNB.out _ (below_drewN HB7.out _)⟩
    by_cases h2 : e2 = 0
    case neg =>
      have f2 : (e2 == 0) = false := by simpa using h2
      subst h1
      clear h2
      go_wp2_with fail
      go_quiet (fail)
      go_wp2_with fail
      go_ret
      exact ⟨rfl, HNB.out _ (below_drewN HB7.out _)⟩
    subst h1 h2
    have hall := HLT.out rfl rfl
    obtain ⟨hwok, hl20⟩ := HOK.out rfl
    obtain ⟨z, hz⟩ : ∃ z, l1.length = z + 1 := by
      cases l1 with
      | nil => exact hwok.elim
      | cons s l => exact ⟨l.length, rfl⟩
    have hz2 : l2.length = z + 1 := by rw [hall.len, hz]
    obtain ⟨s1, hs1⟩ : ∃ s, l1[z]? = some s := ⟨_, List.getElem?_eq_getElem (by omega)⟩
    obtain ⟨s2, hs2⟩ : ∃ s, l2[z]? = some s := ⟨_, List.getElem?_eq_getElem (by omega)⟩
    have hle : s2.arrive ≤ s1.arrive := (hall.get z _ _ hs2 hs1).2.2.1
    obtain ⟨-, b1, o1, hA1, -, -, hc1⟩ := elem_at encSt_len HR1c.out hs1 (by omega)
    obtain ⟨-, b2, o2, hA2, -, -, hc2⟩ := elem_at encSt_len HR2c.out hs2 (by omega)
    have x1 : w11.cell? ⟨b1, o1 + z * 4 + 1, none⟩ = some (iV s1.arrive) := hc1 1 _ rfl
    have x2 : w11.cell? ⟨b2, o2 + z * 4 + 1, none⟩ = some (iV s2.arrive) := hc2 1 _ rfl
    have q1 : decide (s1.arrive < s2.arrive) = false := by simp; omega
    have q1' : ¬ s1.arrive < s2.arrive := by omega
    have wz1 : IntKind.i64.wrap ((z : Int) + 1 - 1) = (z : Int) := (IntWalk.i64_in _ (by omega)).trans (by omega)
    have wz2 : IntKind.i64.wrap (z : Int) = (z : Int) := IntWalk.i64_in _ (by omega)
    have ez1 : ((z : Int) + 1 == 0) = false := by rw [beq_eq_false_iff_ne]; omega
    have ez2 : ¬ (z : Int) + 1 = 0 := by omega
    have ez3 : (0 : Int) ≤ (z : Int) := by omega
    have ez4 : (z : Int) < (z : Int) + 1 := by omega
    rw [hz, hz2]
    have HZ1 := Lib.hid hz
    have HA1 := Lib.hid hA1
    have HA2 := Lib.hid hA2
    clear hc1 hc2 hs1 hs2 hwok hall hl20 hz hz2
    subst hA1 hA2
    try simp only [Int.natCast_add, Int.cast_ofNat_Int]
    go_wp2_with fail
    go_quiet (fail)
    go_wp2_with fail
    go_ret
    exact ⟨rfl, HNB.out _ (below_drewN HB7.out _)⟩
  · by_cases h1 : e1 = 0
    case neg =>
      have f1 : (e1 == 0) = false := by simpa using h1
      clear h1
      go_wp2_with fail
      go_quiet (fail)
      go_wp2_with fail
      go_ret
      exact ⟨rfl, HNB.out _ (below_drewN HB7.out _)⟩
    by_cases h2 : e2 = 0
    case neg =>
      have f2 : (e2 == 0) = false := by simpa using h2
      subst h1
      clear h2
      go_wp2_with fail
      go_quiet (fail)
      go_wp2_with fail
      go_ret
      exact ⟨rfl, HNB.out _ (below_drewN HB7.out _)⟩
    subst h1 h2
    have hall := HLT.out rfl rfl
    obtain ⟨hwok, hl20⟩ := HOK.out rfl
    obtain ⟨z, hz⟩ : ∃ z, l1.length = z + 1 := by
      cases l1 with
      | nil => exact hwok.elim
      | cons s l => exact ⟨l.length, rfl⟩
    have hz2 : l2.length = z + 1 := by rw [hall.len, hz]
    obtain ⟨s1, hs1⟩ : ∃ s, l1[z]? = some s := ⟨_, List.getElem?_eq_getElem (by omega)⟩
    obtain ⟨s2, hs2⟩ : ∃ s, l2[z]? = some s := ⟨_, List.getElem?_eq_getElem (by omega)⟩
    have hle : s2.arrive ≤ s1.arrive := (hall.get z _ _ hs2 hs1).2.2.1
    obtain ⟨-, b1, o1, hA1, -, -, hc1⟩ := elem_at encSt_len HR1c.out hs1 (by omega)
    obtain ⟨-, b2, o2, hA2, -, -, hc2⟩ := elem_at encSt_len HR2c.out hs2 (by omega)
    have x1 : w11.cell? ⟨b1, o1 + z * 4 + 1, none⟩ = some (iV s1.arrive) := hc1 1 _ rfl
    have x2 : w11.cell? ⟨b2, o2 + z * 4 + 1, none⟩ = some (iV s2.arrive) := hc2 1 _ rfl
    have q1 : decide (s1.arrive < s2.arrive) = false := by simp; omega
    have q1' : ¬ s1.arrive < s2.arrive := by omega
    have wz1 : IntKind.i64.wrap ((z : Int) + 1 - 1) = (z : Int) := (IntWalk.i64_in _ (by omega)).trans (by omega)
    have wz2 : IntKind.i64.wrap (z : Int) = (z : Int) := IntWalk.i64_in _ (by omega)
    have ez1 : ((z : Int) + 1 == 0) = false := by rw [beq_eq_false_iff_ne]; omega
    have ez2 : ¬ (z : Int) + 1 = 0 := by omega
    have ez3 : (0 : Int) ≤ (z : Int) := by omega
    have ez4 : (z : Int) < (z : Int) + 1 := by omega
    rw [hz, hz2]
    have HZ1 := Lib.hid hz
    have HA1 := Lib.hid hA1
    have HA2 := Lib.hid hA2
    clear hc1 hc2 hs1 hs2 hwok hall hl20 hz hz2
    subst hA1 hA2
    try simp only [Int.natCast_add, Int.cast_ofNat_Int]
    go_wp2_with fail
    go_quiet (fail)
    go_wp2_with fail
    go_ret
    exact ⟨rfl, HNB.out _ (below_drewN HB7.out _)⟩
  · by_cases h1 : e1 = 0
    case neg =>
      have f1 : (e1 == 0) = false := by simpa using h1
      clear h1
      go_wp2_with fail
      go_quiet (fail)
      go_wp2_with fail
      go_ret
      exact ⟨rfl, HNB.out _ (below_drewN HB7.out _)⟩
    by_cases h2 : e2 = 0
    case neg =>
      have f2 : (e2 == 0) = false := by simpa using h2
      subst h1
      clear h2
      go_wp2_with fail
      go_quiet (fail)
      go_wp2_with fail
      go_ret
      exact ⟨rfl, HNB.out _ (below_drewN HB7.out _)⟩
    subst h1 h2
    have hall := HLT.out rfl rfl
    obtain ⟨hwok, hl20⟩ := HOK.out rfl
    obtain ⟨z, hz⟩ : ∃ z, l1.length = z + 1 := by
      cases l1 with
      | nil => exact hwok.elim
      | cons s l => exact ⟨l.length, rfl⟩
    have hz2 : l2.length = z + 1 := by rw [hall.len, hz]
    obtain ⟨s1, hs1⟩ : ∃ s, l1[z]? = some s := ⟨_, List.getElem?_eq_getElem (by omega)⟩
    obtain ⟨s2, hs2⟩ : ∃ s, l2[z]? = some s := ⟨_, List.getElem?_eq_getElem (by omega)⟩
    have hle : s2.arrive ≤ s1.arrive := (hall.get z _ _ hs2 hs1).2.2.1
    obtain ⟨-, b1, o1, hA1, -, -, hc1⟩ := elem_at encSt_len HR1c.out hs1 (by omega)
    obtain ⟨-, b2, o2, hA2, -, -, hc2⟩ := elem_at encSt_len HR2c.out hs2 (by omega)
    have x1 : w11.cell? ⟨b1, o1 + z * 4 + 1, none⟩ = some (iV s1.arrive) := hc1 1 _ rfl
    have x2 : w11.cell? ⟨b2, o2 + z * 4 + 1, none⟩ = some (iV s2.arrive) := hc2 1 _ rfl
    have q1 : decide (s1.arrive < s2.arrive) = false := by simp; omega
    have q1' : ¬ s1.arrive < s2.arrive := by omega
    have wz1 : IntKind.i64.wrap ((z : Int) + 1 - 1) = (z : Int) := (IntWalk.i64_in _ (by omega)).trans (by omega)
    have wz2 : IntKind.i64.wrap (z : Int) = (z : Int) := IntWalk.i64_in _ (by omega)
    have ez1 : ((z : Int) + 1 == 0) = false := by rw [beq_eq_false_iff_ne]; omega
    have ez2 : ¬ (z : Int) + 1 = 0 := by omega
    have ez3 : (0 : Int) ≤ (z : Int) := by omega
    have ez4 : (z : Int) < (z : Int) + 1 := by omega
    rw [hz, hz2]
    have HZ1 := Lib.hid hz
    have HA1 := Lib.hid hA1
    have HA2 := Lib.hid hA2
    clear hc1 hc2 hs1 hs2 hwok hall hl20 hz hz2
    subst hA1 hA2
    try simp only [Int.natCast_add, Int.cast_ofNat_Int]
    go_wp2_with fail
    go_quiet (fail)
    go_wp2_with fail
    go_ret
    exact ⟨rfl, HNB.out _ (below_drewN HB7.out _)⟩
end Go.Proofs.YtldkmljjmnaefaaGreatDoor
