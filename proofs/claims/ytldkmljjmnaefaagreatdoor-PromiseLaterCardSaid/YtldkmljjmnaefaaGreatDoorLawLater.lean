/-
  The walk over PromiseLater. (Printed by gen_laws.py.)
-/
import Derived.Test.YtldkmljjmnaefaaGreatDoorPp
namespace Go.Proofs.YtldkmljjmnaefaaGreatDoor
open Go.RowKit

set_option maxHeartbeats 8000000 in
set_option maxRecDepth 100000 in
theorem later_any (n : Net) (A : Option Addr) (c : Nat) (nx : List NsC) (a b c8 x y : Nat) (w : World) (hn : NetIn w n) (hT : Tab w A nx) (hx : nx.length ≤ maxLen) (hk : KW w) (ba1 : a < 256) (bb1 : b < 256) (bc1 : c8 < 256) (bx1 : x < 4294967296) (by1 : y < 4294967296) :
    Calls Tryz.prog 3 #[netV n, .slice A nx.length c, .int .u8 a, .int .u8 b, .int .u8 c8, .int .u32 x, .int .u32 y] w fun e w' => e = .returned (.bool true) ∧ Below w.heap.size w w' := by
  have hb0 := ba w (netO n)
  have hx0 := heap_alloc_new w (netO n)
  have HNP : Hid (NetP (w.alloc (netO n)) w.heap.size n) := ⟨fun i v hv => (cell_of_row _ _ _ _ _ _ hx0).trans hv, hn.below hb0⟩
  have HT := Lib.hid (hT.below hb0)
  have HK := Lib.hid (hk.below hb0)
  have HXL := Lib.hid hx
  have HB0 := Lib.hid hb0
  have hcl := hn.lens.2.2.2.2.2
  unfold maxLen at hcl
  clear hn hT hk hx hb0 hx0
  go_enter Tryz.func3, Tryz.ntmps3
  go_upto_region 1 with fail
  change Code.wp _ _ _ _ (w.alloc (netO n))
  generalize (w.alloc (netO n)) = W at *
  generalize hX : w.heap.size = X at *
  have HX := Lib.hid hX; clear hX
  have HNB : Hid (∀ wr, Below W.heap.size W wr → Below w.heap.size w wr) := fun wr hb => by have h := HB0.out; rw [← HX.out] at h; exact bt h hb
  go_wp2_with fail
  refine (head_any _ HK.out).mono ?_
  rintro e w1 ⟨rfl, hb⟩
  have HB1 := Lib.hid hb
  clear hb
  have n0 : w1.cell? ⟨X, 0, none⟩ = some (.slice n.calA n.cals.length n.calC) := (HNP.out.below HB1.out).box 0 _ rfl
  have n1 : w1.cell? ⟨X, 1, none⟩ = some (.slice n.namA n.names.length n.namC) := (HNP.out.below HB1.out).box 1 _ rfl
  have n2 : w1.cell? ⟨X, 2, none⟩ = some (.slice n.opA n.ops.length n.opC) := (HNP.out.below HB1.out).box 2 _ rfl
  have n3 : w1.cell? ⟨X, 3, none⟩ = some (.slice n.offA n.offs.length n.offC) := (HNP.out.below HB1.out).box 3 _ rfl
  have n4 : w1.cell? ⟨X, 4, none⟩ = some (.slice n.linA n.lins.length n.linC) := (HNP.out.below HB1.out).box 4 _ rfl
  have n5 : w1.cell? ⟨X, 5, none⟩ = some (.slice n.clsA n.clss.length n.clsC) := (HNP.out.below HB1.out).box 5 _ rfl
  go_wp2_with fail
  refine (right_any n A c nx _ (HNP.out.below HB1.out).net (HT.out.below HB1.out) HXL.out).mono ?_
  rintro e w2 ⟨⟨b1, rfl, h1⟩, hb⟩
  have H1 := Lib.hid h1
  have HB2 := Lib.hid (bt HB1.out hb)
  clear h1 hb n0 n1 n2 n3 n4 n5
  cases b1
  · go_wp2_with fail
    go_ret
    exact ⟨rfl, HNB.out _ HB2.out⟩
  have HP : Hid (RightP n nx) := H1.out rfl
  clear H1
  obtain ⟨-, -, N0, N6⟩ := HP.out
  have HS : Hid (Sound n) := HP.out.1
  have HF : Hid (Formed n nx) := HP.out.2.1
  have n5 : w2.cell? ⟨X, 5, none⟩ = some (.slice n.clsA n.clss.length n.clsC) := (HNP.out.below HB2.out).box 5 _ rfl
  by_cases hc0 : n.clss.length = 0
  · have z0 : ((n.clss.length : Int) == 0) = true := by rw [beq_iff_eq]; omega
    clear hc0
    go_wp2_with fail
    go_ret
    exact ⟨rfl, HNB.out _ HB2.out⟩
  obtain ⟨o, ho⟩ : ∃ o, o = a % n.offs.length := ⟨_, rfl⟩
  obtain ⟨d, hd⟩ : ∃ d, d = b % n.offs.length := ⟨_, rfl⟩
  obtain ⟨k, hk⟩ : ∃ k, k = c8 % n.clss.length := ⟨_, rfl⟩
  have ho1 : o < n.offs.length := by rw [ho]; exact Nat.mod_lt _ N0
  have hd1 : d < n.offs.length := by rw [hd]; exact Nat.mod_lt _ N0
  have hk1 : k < n.clss.length := by rw [hk]; exact Nat.mod_lt _ (by omega)
  have mo : Int.tmod (a : Int) (n.offs.length : Int) = (o : Int) := by rw [ho]; exact mod_nat _ _
  have md : Int.tmod (b : Int) (n.offs.length : Int) = (d : Int) := by rw [hd]; exact mod_nat _ _
  have mk : Int.tmod (c8 : Int) (n.clss.length : Int) = (k : Int) := by rw [hk]; exact mod_nat _ _
  have wa : IntKind.i64.wrap (a : Int) = (a : Int) := IntWalk.i64_in _ (by omega)
  have wb : IntKind.i64.wrap (b : Int) = (b : Int) := IntWalk.i64_in _ (by omega)
  have wc : IntKind.i64.wrap (c8 : Int) = (c8 : Int) := IntWalk.i64_in _ (by omega)
  have zo : ((n.offs.length : Int) == 0) = false := by rw [beq_eq_false_iff_ne]; omega
  have zk : ((n.clss.length : Int) == 0) = false := by rw [beq_eq_false_iff_ne]; omega
  have zo' : ¬ (n.offs.length : Int) = 0 := by omega
  have zk' : ¬ (n.clss.length : Int) = 0 := by omega
  clear ho hd hk
  obtain ⟨t, ht⟩ : ∃ t, t = x % 50001 := ⟨_, rfl⟩
  obtain ⟨u, hu⟩ : ∃ u, u = y % 50001 := ⟨_, rfl⟩
  have ht1 : t ≤ 50000 := by omega
  have hu1 : u ≤ 50000 := by omega
  have mt : Int.tmod (x : Int) 50001 = (t : Int) := by rw [ht]; exact mod_nat x 50001
  have mu : Int.tmod (y : Int) 50001 = (u : Int) := by rw [hu]; exact mod_nat y 50001
  have wx : IntKind.i64.wrap (x : Int) = (x : Int) := IntWalk.i64_in _ (by omega)
  have wy : IntKind.i64.wrap (y : Int) = (y : Int) := IntWalk.i64_in _ (by omega)
  clear ht hu
  have HW1 := Lib.hid (wayTop_eq HS.out HF.out ho1 hd1 (t := (t : Int)) (by omega) (by omega))
  have HW2 := Lib.hid (wayTop_eq HS.out HF.out ho1 hd1 (t := (t : Int) + (u : Int)) (by omega) (by omega))
  have HD1 := Lib.hid (deliveryTop_eq HS.out hk1 hd1 (t := (t : Int)) (by omega) (by omega))
  have HD2 := Lib.hid (deliveryTop_eq HS.out hk1 hd1 (t := (t : Int) + (u : Int)) (by omega) (by omega))
  have HC1 := Lib.hid (cutoffTop_eq HS.out hk1 ho1 (t := (t : Int)) (by omega) (by omega))
  have HC2 := Lib.hid (cutoffTop_eq HS.out hk1 ho1 (t := (t : Int) + (u : Int)) (by omega) (by omega))
  have HLT := Lib.hid (wayR_later (Quick.same n) HS.out.1.good HF.out hd1 19 o (t : Int) ((t : Int) + (u : Int)) ho1 (by omega))
  have HLN : Hid ((wayR n nx d 19 o (t : Int)).1 = 0 → (wayR n nx d 19 o (t : Int)).2.length ≤ 20) := fun h => (wayR_ok 19 o (t : Int) h).2
  have HLD : Hid (LePair (deliveryR (calAt n d) (offAt n d) (clsAt n k) (t : Int)) (deliveryR (calAt n d) (offAt n d) (clsAt n k) ((t : Int) + (u : Int)))) := first_le (cls_ok HS.out hk1).2.2.1 (cls_ok HS.out hk1).2.2.2 (by unfold readyR; omega)
  have HLC : Hid (LePair (firstR (calAt n o) (clsAt n k).cut (t : Int)) (firstR (calAt n o) (clsAt n k).cut ((t : Int) + (u : Int)))) := first_le (cls_ok HS.out hk1).1 (cls_ok HS.out hk1).2.1 (by omega)
  rw [← HD1.out, ← HD2.out] at HLD
  rw [← HC1.out, ← HC2.out] at HLC
  rw [← HW1.out, ← HW2.out] at HLT
  rw [← HW1.out] at HLN
  clear HW1 HW2 HD1 HD2 HC1 HC2 n5
  have n0 : w2.cell? ⟨X, 0, none⟩ = some (.slice n.calA n.cals.length n.calC) := (HNP.out.below HB2.out).box 0 _ rfl
  have n1 : w2.cell? ⟨X, 1, none⟩ = some (.slice n.namA n.names.length n.namC) := (HNP.out.below HB2.out).box 1 _ rfl
  have n2 : w2.cell? ⟨X, 2, none⟩ = some (.slice n.opA n.ops.length n.opC) := (HNP.out.below HB2.out).box 2 _ rfl
  have n3 : w2.cell? ⟨X, 3, none⟩ = some (.slice n.offA n.offs.length n.offC) := (HNP.out.below HB2.out).box 3 _ rfl
  have n4 : w2.cell? ⟨X, 4, none⟩ = some (.slice n.linA n.lins.length n.linC) := (HNP.out.below HB2.out).box 4 _ rfl
  have n5 : w2.cell? ⟨X, 5, none⟩ = some (.slice n.clsA n.clss.length n.clsC) := (HNP.out.below HB2.out).box 5 _ rfl
  go_wp2_with fail
  refine (way_any n A c nx o d t _ (HNP.out.below HB2.out).net (HT.out.below HB2.out) HXL.out (HK.out.below HB2.out)).mono ?_
  rintro e w3 ⟨hb, A1, c1, rfl, hr1⟩
  have HB3 := Lib.hid (bt HB2.out hb)
  clear hb n0 n1 n2 n3 n4 n5
  have HR1 := Lib.hid hr1; clear hr1
  have n0 : w3.cell? ⟨X, 0, none⟩ = some (.slice n.calA n.cals.length n.calC) := (HNP.out.below HB3.out).box 0 _ rfl
  have n1 : w3.cell? ⟨X, 1, none⟩ = some (.slice n.namA n.names.length n.namC) := (HNP.out.below HB3.out).box 1 _ rfl
  have n2 : w3.cell? ⟨X, 2, none⟩ = some (.slice n.opA n.ops.length n.opC) := (HNP.out.below HB3.out).box 2 _ rfl
  have n3 : w3.cell? ⟨X, 3, none⟩ = some (.slice n.offA n.offs.length n.offC) := (HNP.out.below HB3.out).box 3 _ rfl
  have n4 : w3.cell? ⟨X, 4, none⟩ = some (.slice n.linA n.lins.length n.linC) := (HNP.out.below HB3.out).box 4 _ rfl
  have n5 : w3.cell? ⟨X, 5, none⟩ = some (.slice n.clsA n.clss.length n.clsC) := (HNP.out.below HB3.out).box 5 _ rfl
  go_wp2_with fail
  refine (way_any n A c nx o d ((t : Int) + (u : Int)) _ (HNP.out.below HB3.out).net (HT.out.below HB3.out) HXL.out (HK.out.below HB3.out)).mono ?_
  rintro e w4 ⟨hb, A2, c2, rfl, hr2⟩
  have HB4 := Lib.hid (bt HB3.out hb)
  have HR1' := Lib.hid (HR1.out.below hb)
  clear hb n0 n1 n2 n3 n4 n5
  have HR2 := Lib.hid hr2
  clear HR1 hr2
  generalize wayTop n nx (o : Int) (d : Int) (t : Int) = r1 at *
  generalize wayTop n nx (o : Int) (d : Int) ((t : Int) + (u : Int)) = r2 at *
  obtain ⟨e1, l1⟩ := r1
  obtain ⟨e2, l2⟩ := r2
  dsimp only at *
  by_cases h1 : e1 = 0
  case neg =>
    have f1 : (e1 == 0) = false := by simpa using h1
    clear h1
    have n0 : w4.cell? ⟨X, 0, none⟩ = some (.slice n.calA n.cals.length n.calC) := (HNP.out.below HB4.out).box 0 _ rfl
    have n1 : w4.cell? ⟨X, 1, none⟩ = some (.slice n.namA n.names.length n.namC) := (HNP.out.below HB4.out).box 1 _ rfl
    have n2 : w4.cell? ⟨X, 2, none⟩ = some (.slice n.opA n.ops.length n.opC) := (HNP.out.below HB4.out).box 2 _ rfl
    have n3 : w4.cell? ⟨X, 3, none⟩ = some (.slice n.offA n.offs.length n.offC) := (HNP.out.below HB4.out).box 3 _ rfl
    have n4 : w4.cell? ⟨X, 4, none⟩ = some (.slice n.linA n.lins.length n.linC) := (HNP.out.below HB4.out).box 4 _ rfl
    have n5 : w4.cell? ⟨X, 5, none⟩ = some (.slice n.clsA n.clss.length n.clsC) := (HNP.out.below HB4.out).box 5 _ rfl
    go_wp2_with fail
    refine (deliverytop_any n k d t _ (HNP.out.below HB4.out).net (HK.out.below HB4.out)).mono ?_
    rintro e w5 ⟨rfl, hb⟩
    have HB5 := Lib.hid (bt HB4.out hb)
    clear hb n0 n1 n2 n3 n4 n5
    have n0 : w5.cell? ⟨X, 0, none⟩ = some (.slice n.calA n.cals.length n.calC) := (HNP.out.below HB5.out).box 0 _ rfl
    have n1 : w5.cell? ⟨X, 1, none⟩ = some (.slice n.namA n.names.length n.namC) := (HNP.out.below HB5.out).box 1 _ rfl
    have n2 : w5.cell? ⟨X, 2, none⟩ = some (.slice n.opA n.ops.length n.opC) := (HNP.out.below HB5.out).box 2 _ rfl
    have n3 : w5.cell? ⟨X, 3, none⟩ = some (.slice n.offA n.offs.length n.offC) := (HNP.out.below HB5.out).box 3 _ rfl
    have n4 : w5.cell? ⟨X, 4, none⟩ = some (.slice n.linA n.lins.length n.linC) := (HNP.out.below HB5.out).box 4 _ rfl
    have n5 : w5.cell? ⟨X, 5, none⟩ = some (.slice n.clsA n.clss.length n.clsC) := (HNP.out.below HB5.out).box 5 _ rfl
    go_wp2_with fail
    refine (deliverytop_any n k d ((t : Int) + (u : Int)) _ (HNP.out.below HB5.out).net (HK.out.below HB5.out)).mono ?_
    rintro e w6 ⟨rfl, hb⟩
    have HB6 := Lib.hid (bt HB5.out hb)
    clear hb n0 n1 n2 n3 n4 n5
    have n0 : w6.cell? ⟨X, 0, none⟩ = some (.slice n.calA n.cals.length n.calC) := (HNP.out.below HB6.out).box 0 _ rfl
    have n1 : w6.cell? ⟨X, 1, none⟩ = some (.slice n.namA n.names.length n.namC) := (HNP.out.below HB6.out).box 1 _ rfl
    have n2 : w6.cell? ⟨X, 2, none⟩ = some (.slice n.opA n.ops.length n.opC) := (HNP.out.below HB6.out).box 2 _ rfl
    have n3 : w6.cell? ⟨X, 3, none⟩ = some (.slice n.offA n.offs.length n.offC) := (HNP.out.below HB6.out).box 3 _ rfl
    have n4 : w6.cell? ⟨X, 4, none⟩ = some (.slice n.linA n.lins.length n.linC) := (HNP.out.below HB6.out).box 4 _ rfl
    have n5 : w6.cell? ⟨X, 5, none⟩ = some (.slice n.clsA n.clss.length n.clsC) := (HNP.out.below HB6.out).box 5 _ rfl
    go_wp2_with fail
    refine (cutofftop_any n k o t _ (HNP.out.below HB6.out).net (HK.out.below HB6.out)).mono ?_
    rintro e w7 ⟨rfl, hb⟩
    have HB7 := Lib.hid (bt HB6.out hb)
    clear hb n0 n1 n2 n3 n4 n5
    have n0 : w7.cell? ⟨X, 0, none⟩ = some (.slice n.calA n.cals.length n.calC) := (HNP.out.below HB7.out).box 0 _ rfl
    have n1 : w7.cell? ⟨X, 1, none⟩ = some (.slice n.namA n.names.length n.namC) := (HNP.out.below HB7.out).box 1 _ rfl
    have n2 : w7.cell? ⟨X, 2, none⟩ = some (.slice n.opA n.ops.length n.opC) := (HNP.out.below HB7.out).box 2 _ rfl
    have n3 : w7.cell? ⟨X, 3, none⟩ = some (.slice n.offA n.offs.length n.offC) := (HNP.out.below HB7.out).box 3 _ rfl
    have n4 : w7.cell? ⟨X, 4, none⟩ = some (.slice n.linA n.lins.length n.linC) := (HNP.out.below HB7.out).box 4 _ rfl
    have n5 : w7.cell? ⟨X, 5, none⟩ = some (.slice n.clsA n.clss.length n.clsC) := (HNP.out.below HB7.out).box 5 _ rfl
    go_wp2_with fail
    refine (cutofftop_any n k o ((t : Int) + (u : Int)) _ (HNP.out.below HB7.out).net (HK.out.below HB7.out)).mono ?_
    rintro e w8 ⟨rfl, hb⟩
    have HB8 := Lib.hid (bt HB7.out hb)
    clear hb n0 n1 n2 n3 n4 n5
    generalize deliveryTop n (k : Int) (d : Int) (t : Int) = p1 at *
    generalize deliveryTop n (k : Int) (d : Int) ((t : Int) + (u : Int)) = p2 at *
    generalize cutoffTop n (k : Int) (o : Int) (t : Int) = q1 at *
    generalize cutoffTop n (k : Int) (o : Int) ((t : Int) + (u : Int)) = q2 at *
    obtain ⟨p1a, p1b⟩ := p1
    obtain ⟨p2a, p2b⟩ := p2
    obtain ⟨q1a, q1b⟩ := q1
    obtain ⟨q2a, q2b⟩ := q2
    have hld := HLD.out
    have hlc := HLC.out
    clear HLD HLC
    unfold LePair at hld hlc
    dsimp only at *
    rcases hld with g1 | ⟨rfl, g1⟩ | ⟨rfl, rfl, g1⟩ <;> rcases hlc with g2 | ⟨rfl, g2⟩ | ⟨rfl, rfl, g2⟩
    all_goals
      go_wp2_with fail
      go_ret
      exact ⟨rfl, HNB.out _ HB8.out⟩
  by_cases h2 : e2 = 0
  case neg =>
    have f2 : (e2 == 0) = false := by simpa using h2
    subst h1
    clear h2
    have n0 : w4.cell? ⟨X, 0, none⟩ = some (.slice n.calA n.cals.length n.calC) := (HNP.out.below HB4.out).box 0 _ rfl
    have n1 : w4.cell? ⟨X, 1, none⟩ = some (.slice n.namA n.names.length n.namC) := (HNP.out.below HB4.out).box 1 _ rfl
    have n2 : w4.cell? ⟨X, 2, none⟩ = some (.slice n.opA n.ops.length n.opC) := (HNP.out.below HB4.out).box 2 _ rfl
    have n3 : w4.cell? ⟨X, 3, none⟩ = some (.slice n.offA n.offs.length n.offC) := (HNP.out.below HB4.out).box 3 _ rfl
    have n4 : w4.cell? ⟨X, 4, none⟩ = some (.slice n.linA n.lins.length n.linC) := (HNP.out.below HB4.out).box 4 _ rfl
    have n5 : w4.cell? ⟨X, 5, none⟩ = some (.slice n.clsA n.clss.length n.clsC) := (HNP.out.below HB4.out).box 5 _ rfl
    go_wp2_with fail
    refine (deliverytop_any n k d t _ (HNP.out.below HB4.out).net (HK.out.below HB4.out)).mono ?_
    rintro e w5 ⟨rfl, hb⟩
    have HB5 := Lib.hid (bt HB4.out hb)
    clear hb n0 n1 n2 n3 n4 n5
    have n0 : w5.cell? ⟨X, 0, none⟩ = some (.slice n.calA n.cals.length n.calC) := (HNP.out.below HB5.out).box 0 _ rfl
    have n1 : w5.cell? ⟨X, 1, none⟩ = some (.slice n.namA n.names.length n.namC) := (HNP.out.below HB5.out).box 1 _ rfl
    have n2 : w5.cell? ⟨X, 2, none⟩ = some (.slice n.opA n.ops.length n.opC) := (HNP.out.below HB5.out).box 2 _ rfl
    have n3 : w5.cell? ⟨X, 3, none⟩ = some (.slice n.offA n.offs.length n.offC) := (HNP.out.below HB5.out).box 3 _ rfl
    have n4 : w5.cell? ⟨X, 4, none⟩ = some (.slice n.linA n.lins.length n.linC) := (HNP.out.below HB5.out).box 4 _ rfl
    have n5 : w5.cell? ⟨X, 5, none⟩ = some (.slice n.clsA n.clss.length n.clsC) := (HNP.out.below HB5.out).box 5 _ rfl
    go_wp2_with fail
    refine (deliverytop_any n k d ((t : Int) + (u : Int)) _ (HNP.out.below HB5.out).net (HK.out.below HB5.out)).mono ?_
    rintro e w6 ⟨rfl, hb⟩
    have HB6 := Lib.hid (bt HB5.out hb)
    clear hb n0 n1 n2 n3 n4 n5
    have n0 : w6.cell? ⟨X, 0, none⟩ = some (.slice n.calA n.cals.length n.calC) := (HNP.out.below HB6.out).box 0 _ rfl
    have n1 : w6.cell? ⟨X, 1, none⟩ = some (.slice n.namA n.names.length n.namC) := (HNP.out.below HB6.out).box 1 _ rfl
    have n2 : w6.cell? ⟨X, 2, none⟩ = some (.slice n.opA n.ops.length n.opC) := (HNP.out.below HB6.out).box 2 _ rfl
    have n3 : w6.cell? ⟨X, 3, none⟩ = some (.slice n.offA n.offs.length n.offC) := (HNP.out.below HB6.out).box 3 _ rfl
    have n4 : w6.cell? ⟨X, 4, none⟩ = some (.slice n.linA n.lins.length n.linC) := (HNP.out.below HB6.out).box 4 _ rfl
    have n5 : w6.cell? ⟨X, 5, none⟩ = some (.slice n.clsA n.clss.length n.clsC) := (HNP.out.below HB6.out).box 5 _ rfl
    go_wp2_with fail
    refine (cutofftop_any n k o t _ (HNP.out.below HB6.out).net (HK.out.below HB6.out)).mono ?_
    rintro e w7 ⟨rfl, hb⟩
    have HB7 := Lib.hid (bt HB6.out hb)
    clear hb n0 n1 n2 n3 n4 n5
    have n0 : w7.cell? ⟨X, 0, none⟩ = some (.slice n.calA n.cals.length n.calC) := (HNP.out.below HB7.out).box 0 _ rfl
    have n1 : w7.cell? ⟨X, 1, none⟩ = some (.slice n.namA n.names.length n.namC) := (HNP.out.below HB7.out).box 1 _ rfl
    have n2 : w7.cell? ⟨X, 2, none⟩ = some (.slice n.opA n.ops.length n.opC) := (HNP.out.below HB7.out).box 2 _ rfl
    have n3 : w7.cell? ⟨X, 3, none⟩ = some (.slice n.offA n.offs.length n.offC) := (HNP.out.below HB7.out).box 3 _ rfl
    have n4 : w7.cell? ⟨X, 4, none⟩ = some (.slice n.linA n.lins.length n.linC) := (HNP.out.below HB7.out).box 4 _ rfl
    have n5 : w7.cell? ⟨X, 5, none⟩ = some (.slice n.clsA n.clss.length n.clsC) := (HNP.out.below HB7.out).box 5 _ rfl
    go_wp2_with fail
    refine (cutofftop_any n k o ((t : Int) + (u : Int)) _ (HNP.out.below HB7.out).net (HK.out.below HB7.out)).mono ?_
    rintro e w8 ⟨rfl, hb⟩
    have HB8 := Lib.hid (bt HB7.out hb)
    clear hb n0 n1 n2 n3 n4 n5
    generalize deliveryTop n (k : Int) (d : Int) (t : Int) = p1 at *
    generalize deliveryTop n (k : Int) (d : Int) ((t : Int) + (u : Int)) = p2 at *
    generalize cutoffTop n (k : Int) (o : Int) (t : Int) = q1 at *
    generalize cutoffTop n (k : Int) (o : Int) ((t : Int) + (u : Int)) = q2 at *
    obtain ⟨p1a, p1b⟩ := p1
    obtain ⟨p2a, p2b⟩ := p2
    obtain ⟨q1a, q1b⟩ := q1
    obtain ⟨q2a, q2b⟩ := q2
    have hld := HLD.out
    have hlc := HLC.out
    clear HLD HLC
    unfold LePair at hld hlc
    dsimp only at *
    rcases hld with g1 | ⟨rfl, g1⟩ | ⟨rfl, rfl, g1⟩ <;> rcases hlc with g2 | ⟨rfl, g2⟩ | ⟨rfl, rfl, g2⟩
    all_goals
      go_wp2_with fail
      go_ret
      exact ⟨rfl, HNB.out _ HB8.out⟩
  subst h1 h2
  have HAL : Hid (All2 LeSt l1 l2) := HLT.out rfl rfl
  have hll : ((l1.length : Int) != (l2.length : Int)) = false := by rw [HAL.out.len]; simp
  have hll' : ((l1.length : Int) == (l2.length : Int)) = true := by rw [HAL.out.len]; simp
  have HLL := Lib.hid HAL.out.len
  have hl20 : l1.length ≤ 20 := HLN.out rfl
  clear HLT HLN
  go_wp2_with fail
  clear hll hll'
  go_loopw [25] (fun i wr => ∃ j q : Nat, j ≤ l1.length ∧ i = iV j ∧ wr = w4.drewN q) (fun i _ => l1.length + 1 - (intOf i).toNat)
  case atStart => exact ⟨0, 0, by omega, rfl, rfl⟩
  case round =>
  obtain ⟨j, q, hj, rfl, rfl⟩ := hrel
  have j0 : (0 : Int) ≤ (j : Int) := by omega
  by_cases hlt : j < l1.length
  case pos =>
    have HJ := Lib.hid hlt
    have j1 : (j : Int) < (l1.length : Int) := by omega
    have j2 : (j : Int) < (l2.length : Int) := by have := HLL.out; omega
    have hs1 : l1[j]? = some l1[j] := List.getElem?_eq_getElem _
    have hs2 : l2[j]? = some (l2[j]'(by have := HLL.out; omega)) := List.getElem?_eq_getElem _
    have HLE := Lib.hid (HAL.out.get j _ _ hs1 hs2)
    obtain ⟨-, b1, o1, hA1, -, -, hc1⟩ := elem_at encSt_len HR1'.out hs1 (by omega)
    obtain ⟨-, b2, o2, hA2, -, -, hc2⟩ := elem_at encSt_len HR2.out hs2 (by omega)
    generalize l1[j] = s1 at *
    generalize l2[j]'(by have := HLL.out; omega) = s2 at *
    have x1 : w4.cell? ⟨b1, o1 + j * 4 + 1, none⟩ = some (iV s1.arrive) := hc1 1 _ rfl
    have x2 : w4.cell? ⟨b1, o1 + j * 4 + 2, none⟩ = some (iV s1.depart) := hc1 2 _ rfl
    have y1 : w4.cell? ⟨b2, o2 + j * 4 + 1, none⟩ = some (iV s2.arrive) := hc2 1 _ rfl
    have y2 : w4.cell? ⟨b2, o2 + j * 4 + 2, none⟩ = some (iV s2.depart) := hc2 2 _ rfl
    have g1 : decide (s2.arrive < s1.arrive) = false := by have := HLE.out.2.2.1; simp; omega
    have g2 : decide (s2.depart < s1.depart) = false := by have := HLE.out.2.2.2; simp; omega
    have g1' : ¬ s2.arrive < s1.arrive := by simpa using g1
    have g2' : ¬ s2.depart < s1.depart := by simpa using g2
    have HA1 := Lib.hid hA1
    have HA2 := Lib.hid hA2
    clear hc1 hc2 hs1 hs2 HLE
    subst hA1 hA2
    go_wp2_with fail
    go_quiet (fail)
    go_wp2_with fail
    go_roundw
    case rel => exact ⟨j + 1, _, by have := HJ.out; omega, by go_num, rfl⟩
    case measure => have := HJ.out; simp [intOf]; omega
  have j1 : ¬ (j : Int) < (l1.length : Int) := by omega
  have HB4' := Lib.hid (below_drewN HB4.out q)
  clear HB4
  generalize w4.drewN q = w4 at *
  have n0 : w4.cell? ⟨X, 0, none⟩ = some (.slice n.calA n.cals.length n.calC) := (HNP.out.below HB4'.out).box 0 _ rfl
  have n1 : w4.cell? ⟨X, 1, none⟩ = some (.slice n.namA n.names.length n.namC) := (HNP.out.below HB4'.out).box 1 _ rfl
  have n2 : w4.cell? ⟨X, 2, none⟩ = some (.slice n.opA n.ops.length n.opC) := (HNP.out.below HB4'.out).box 2 _ rfl
  have n3 : w4.cell? ⟨X, 3, none⟩ = some (.slice n.offA n.offs.length n.offC) := (HNP.out.below HB4'.out).box 3 _ rfl
  have n4 : w4.cell? ⟨X, 4, none⟩ = some (.slice n.linA n.lins.length n.linC) := (HNP.out.below HB4'.out).box 4 _ rfl
  have n5 : w4.cell? ⟨X, 5, none⟩ = some (.slice n.clsA n.clss.length n.clsC) := (HNP.out.below HB4'.out).box 5 _ rfl
  go_wp2_with fail
  refine (deliverytop_any n k d t _ (HNP.out.below HB4'.out).net (HK.out.below HB4'.out)).mono ?_
  rintro e w5 ⟨rfl, hb⟩
  have HB5 := Lib.hid (bt HB4'.out hb)
  clear hb n0 n1 n2 n3 n4 n5
  have n0 : w5.cell? ⟨X, 0, none⟩ = some (.slice n.calA n.cals.length n.calC) := (HNP.out.below HB5.out).box 0 _ rfl
  have n1 : w5.cell? ⟨X, 1, none⟩ = some (.slice n.namA n.names.length n.namC) := (HNP.out.below HB5.out).box 1 _ rfl
  have n2 : w5.cell? ⟨X, 2, none⟩ = some (.slice n.opA n.ops.length n.opC) := (HNP.out.below HB5.out).box 2 _ rfl
  have n3 : w5.cell? ⟨X, 3, none⟩ = some (.slice n.offA n.offs.length n.offC) := (HNP.out.below HB5.out).box 3 _ rfl
  have n4 : w5.cell? ⟨X, 4, none⟩ = some (.slice n.linA n.lins.length n.linC) := (HNP.out.below HB5.out).box 4 _ rfl
  have n5 : w5.cell? ⟨X, 5, none⟩ = some (.slice n.clsA n.clss.length n.clsC) := (HNP.out.below HB5.out).box 5 _ rfl
  go_wp2_with fail
  refine (deliverytop_any n k d ((t : Int) + (u : Int)) _ (HNP.out.below HB5.out).net (HK.out.below HB5.out)).mono ?_
  rintro e w6 ⟨rfl, hb⟩
  have HB6 := Lib.hid (bt HB5.out hb)
  clear hb n0 n1 n2 n3 n4 n5
  have n0 : w6.cell? ⟨X, 0, none⟩ = some (.slice n.calA n.cals.length n.calC) := (HNP.out.below HB6.out).box 0 _ rfl
  have n1 : w6.cell? ⟨X, 1, none⟩ = some (.slice n.namA n.names.length n.namC) := (HNP.out.below HB6.out).box 1 _ rfl
  have n2 : w6.cell? ⟨X, 2, none⟩ = some (.slice n.opA n.ops.length n.opC) := (HNP.out.below HB6.out).box 2 _ rfl
  have n3 : w6.cell? ⟨X, 3, none⟩ = some (.slice n.offA n.offs.length n.offC) := (HNP.out.below HB6.out).box 3 _ rfl
  have n4 : w6.cell? ⟨X, 4, none⟩ = some (.slice n.linA n.lins.length n.linC) := (HNP.out.below HB6.out).box 4 _ rfl
  have n5 : w6.cell? ⟨X, 5, none⟩ = some (.slice n.clsA n.clss.length n.clsC) := (HNP.out.below HB6.out).box 5 _ rfl
  go_wp2_with fail
  refine (cutofftop_any n k o t _ (HNP.out.below HB6.out).net (HK.out.below HB6.out)).mono ?_
  rintro e w7 ⟨rfl, hb⟩
  have HB7 := Lib.hid (bt HB6.out hb)
  clear hb n0 n1 n2 n3 n4 n5
  have n0 : w7.cell? ⟨X, 0, none⟩ = some (.slice n.calA n.cals.length n.calC) := (HNP.out.below HB7.out).box 0 _ rfl
  have n1 : w7.cell? ⟨X, 1, none⟩ = some (.slice n.namA n.names.length n.namC) := (HNP.out.below HB7.out).box 1 _ rfl
  have n2 : w7.cell? ⟨X, 2, none⟩ = some (.slice n.opA n.ops.length n.opC) := (HNP.out.below HB7.out).box 2 _ rfl
  have n3 : w7.cell? ⟨X, 3, none⟩ = some (.slice n.offA n.offs.length n.offC) := (HNP.out.below HB7.out).box 3 _ rfl
  have n4 : w7.cell? ⟨X, 4, none⟩ = some (.slice n.linA n.lins.length n.linC) := (HNP.out.below HB7.out).box 4 _ rfl
  have n5 : w7.cell? ⟨X, 5, none⟩ = some (.slice n.clsA n.clss.length n.clsC) := (HNP.out.below HB7.out).box 5 _ rfl
  go_wp2_with fail
  refine (cutofftop_any n k o ((t : Int) + (u : Int)) _ (HNP.out.below HB7.out).net (HK.out.below HB7.out)).mono ?_
  rintro e w8 ⟨rfl, hb⟩
  have HB8 := Lib.hid (bt HB7.out hb)
  clear hb n0 n1 n2 n3 n4 n5
  generalize deliveryTop n (k : Int) (d : Int) (t : Int) = p1 at *
  generalize deliveryTop n (k : Int) (d : Int) ((t : Int) + (u : Int)) = p2 at *
  generalize cutoffTop n (k : Int) (o : Int) (t : Int) = q1 at *
  generalize cutoffTop n (k : Int) (o : Int) ((t : Int) + (u : Int)) = q2 at *
  obtain ⟨p1a, p1b⟩ := p1
  obtain ⟨p2a, p2b⟩ := p2
  obtain ⟨q1a, q1b⟩ := q1
  obtain ⟨q2a, q2b⟩ := q2
  have hld := HLD.out
  have hlc := HLC.out
  clear HLD HLC
  unfold LePair at hld hlc
  dsimp only at *
  rcases hld with g1 | ⟨rfl, g1⟩ | ⟨rfl, rfl, g1⟩ <;> rcases hlc with g2 | ⟨rfl, g2⟩ | ⟨rfl, rfl, g2⟩
  all_goals
    go_wp2_with fail
    go_ret
    exact ⟨rfl, HNB.out _ HB8.out⟩
end Go.Proofs.YtldkmljjmnaefaaGreatDoor
