/-
  The walk over PromiseLonger. (Printed by gen_longer.py.)
-/
import Derived.Test.YtldkmljjmnaefaaGreatDoorProDays3
namespace Go.Proofs.YtldkmljjmnaefaaGreatDoor
open Go.RowKit

set_option maxHeartbeats 8000000 in
set_option maxRecDepth 100000 in
theorem longer_any (n : Net) (A : Option Addr) (c : Nat) (nx : List NsC) (a b e8 : Nat) (w : World) (hn : NetIn w n) (hT : Tab w A nx) (hx : nx.length ≤ maxLen) (hk : KW w) (ba1 : a < 256) (bb1 : b < 256) (be1 : e8 < 256) :
    Calls Tryz.prog 4 #[netV n, .slice A nx.length c, .int .u8 a, .int .u8 b, .int .u8 e8] w fun e w' => e = .returned (.bool true) ∧ Below w.heap.size w w' := by
  have hb0 := ba w (netO n)
  have hx0 := heap_alloc_new w (netO n)
  have HNP : Hid (NetP (w.alloc (netO n)) w.heap.size n) := ⟨fun i v hv => (cell_of_row _ _ _ _ _ _ hx0).trans hv, hn.below hb0⟩
  have HT := Lib.hid (hT.below hb0)
  have HK := Lib.hid (hk.below hb0)
  have HXL := Lib.hid hx
  have HB0 := Lib.hid hb0
  clear hn hT hk hx hb0 hx0
  go_enter Tryz.func4, Tryz.ntmps4
  go_upto_region 1 with fail
  change Code.wp _ _ _ _ (w.alloc (netO n))
  generalize (w.alloc (netO n)) = W at *
  generalize hX : w.heap.size = X at *
  have HX := Lib.hid hX; clear hX
  have HNB : Hid (∀ wr, Below W.heap.size W wr → Below w.heap.size w wr) := fun wr hb => by have h := HB0.out; rw [← HX.out] at h; exact bt h hb
  go_wp2_with fail
  refine (head_any _ HK.out).mono ?_
  rintro e w1 ⟨rfl, hb⟩
  have HB1 := Lib.hid hb
  clear hb
  have n0 : w1.cell? ⟨X, 0, none⟩ = some (.slice n.calA n.cals.length n.calC) := (HNP.out.below HB1.out).box 0 _ rfl
  have n1 : w1.cell? ⟨X, 1, none⟩ = some (.slice n.namA n.names.length n.namC) := (HNP.out.below HB1.out).box 1 _ rfl
  have n2 : w1.cell? ⟨X, 2, none⟩ = some (.slice n.opA n.ops.length n.opC) := (HNP.out.below HB1.out).box 2 _ rfl
  have n3 : w1.cell? ⟨X, 3, none⟩ = some (.slice n.offA n.offs.length n.offC) := (HNP.out.below HB1.out).box 3 _ rfl
  have n4 : w1.cell? ⟨X, 4, none⟩ = some (.slice n.linA n.lins.length n.linC) := (HNP.out.below HB1.out).box 4 _ rfl
  have n5 : w1.cell? ⟨X, 5, none⟩ = some (.slice n.clsA n.clss.length n.clsC) := (HNP.out.below HB1.out).box 5 _ rfl
  go_wp2_with fail
  refine (right_any n A c nx _ (HNP.out.below HB1.out).net (HT.out.below HB1.out) HXL.out).mono ?_
  rintro e w2 ⟨⟨b1, rfl, h1⟩, hb⟩
  have H1 := Lib.hid h1
  have HB2 := Lib.hid (bt HB1.out hb)
  clear h1 hb n0 n1 n2 n3 n4 n5
  cases b1
  · go_wp2_with fail
    go_ret
    exact ⟨rfl, HNB.out _ HB2.out⟩
  have HP : Hid (RightP n nx) := H1.out rfl
  clear H1
  obtain ⟨-, -, N0, N6⟩ := HP.out
  have HS : Hid (Sound n) := HP.out.1
  have HF : Hid (Formed n nx) := HP.out.2.1
  obtain ⟨fr, hfr⟩ : ∃ fr, fr = a % 20 := ⟨_, rfl⟩
  obtain ⟨p, hp⟩ : ∃ p, p = b % 6 := ⟨_, rfl⟩
  obtain ⟨q, hq⟩ : ∃ q, q = e8 % 6 := ⟨_, rfl⟩
  have hfr1 : fr < 20 := by omega
  have hp1 : p < 6 := by omega
  have hq1 : q < 6 := by omega
  have mf : Int.tmod (a : Int) 20 = (fr : Int) := by rw [hfr]; exact mod_nat a 20
  have mp : Int.tmod (b : Int) 6 = (p : Int) := by rw [hp]; exact mod_nat b 6
  have mq : Int.tmod (e8 : Int) 6 = (q : Int) := by rw [hq]; exact mod_nat e8 6
  have wa : IntKind.i64.wrap (a : Int) = (a : Int) := IntWalk.i64_in _ (by omega)
  have wb : IntKind.i64.wrap (b : Int) = (b : Int) := IntWalk.i64_in _ (by omega)
  have wc : IntKind.i64.wrap (e8 : Int) = (e8 : Int) := IntWalk.i64_in _ (by omega)
  have HMP : Hid (∀ k < n.clss.length, ∀ o d, -1 ≤ mostR n nx k o d (fr : Int) ((fr : Int) + 1 + (p : Int) + 1 + (q : Int)) ∧ (mostR n nx k o d (fr : Int) ((fr : Int) + 1 + (p : Int) + 1 + (q : Int)) = max (mostR n nx k o d (fr : Int) ((fr : Int) + 1 + (p : Int))) (mostR n nx k o d ((fr : Int) + 1 + (p : Int)) ((fr : Int) + 1 + (p : Int) + 1 + (q : Int))) ∨ mostR n nx k o d (fr : Int) ((fr : Int) + 1 + (p : Int) + 1 + (q : Int)) = -1 ∧ min (mostR n nx k o d (fr : Int) ((fr : Int) + 1 + (p : Int))) (mostR n nx k o d ((fr : Int) + 1 + (p : Int)) ((fr : Int) + 1 + (p : Int) + 1 + (q : Int))) < 0)) := fun k hk o d => mostR_parts HS.out.1.good hk (by omega) (by omega) (by omega)
  have hC4 := HS.out.1.cls.1
  clear hfr hp hq
  have n0 : w2.cell? ⟨X, 0, none⟩ = some (.slice n.calA n.cals.length n.calC) := (HNP.out.below HB2.out).box 0 _ rfl
  have n1 : w2.cell? ⟨X, 1, none⟩ = some (.slice n.namA n.names.length n.namC) := (HNP.out.below HB2.out).box 1 _ rfl
  have n2 : w2.cell? ⟨X, 2, none⟩ = some (.slice n.opA n.ops.length n.opC) := (HNP.out.below HB2.out).box 2 _ rfl
  have n3 : w2.cell? ⟨X, 3, none⟩ = some (.slice n.offA n.offs.length n.offC) := (HNP.out.below HB2.out).box 3 _ rfl
  have n4 : w2.cell? ⟨X, 4, none⟩ = some (.slice n.linA n.lins.length n.linC) := (HNP.out.below HB2.out).box 4 _ rfl
  have n5 : w2.cell? ⟨X, 5, none⟩ = some (.slice n.clsA n.clss.length n.clsC) := (HNP.out.below HB2.out).box 5 _ rfl
  go_wp2_with fail
  refine (table_any n A c nx (fr : Int) ((fr : Int) + 1 + (p : Int)) _ (HNP.out.below HB2.out).net (HT.out.below HB2.out) HXL.out (HK.out.below HB2.out) HS.out HF.out (by omega) (by omega) (by omega) (by omega)).mono ?_
  rintro e w3 ⟨ga, xsa, rfl, -, -, ra, -, pa, hb⟩
  have HB3 := Lib.hid (bt HB2.out hb)
  clear hb n0 n1 n2 n3 n4 n5
  have VA := Lib.hid (TabV.of ra pa)
  clear ra pa
  have n0 : w3.cell? ⟨X, 0, none⟩ = some (.slice n.calA n.cals.length n.calC) := (HNP.out.below HB3.out).box 0 _ rfl
  have n1 : w3.cell? ⟨X, 1, none⟩ = some (.slice n.namA n.names.length n.namC) := (HNP.out.below HB3.out).box 1 _ rfl
  have n2 : w3.cell? ⟨X, 2, none⟩ = some (.slice n.opA n.ops.length n.opC) := (HNP.out.below HB3.out).box 2 _ rfl
  have n3 : w3.cell? ⟨X, 3, none⟩ = some (.slice n.offA n.offs.length n.offC) := (HNP.out.below HB3.out).box 3 _ rfl
  have n4 : w3.cell? ⟨X, 4, none⟩ = some (.slice n.linA n.lins.length n.linC) := (HNP.out.below HB3.out).box 4 _ rfl
  have n5 : w3.cell? ⟨X, 5, none⟩ = some (.slice n.clsA n.clss.length n.clsC) := (HNP.out.below HB3.out).box 5 _ rfl
  go_wp2_with fail
  refine (table_any n A c nx ((fr : Int) + 1 + (p : Int)) ((fr : Int) + 1 + (p : Int) + 1 + (q : Int)) _ (HNP.out.below HB3.out).net (HT.out.below HB3.out) HXL.out (HK.out.below HB3.out) HS.out HF.out (by omega) (by omega) (by omega) (by omega)).mono ?_
  rintro e w4 ⟨gb, xsb, rfl, -, -, rb, -, pb, hb⟩
  have HB4 := Lib.hid (bt HB3.out hb)
  have VA4 := Lib.hid (VA.out.below hb)
  clear hb n0 n1 n2 n3 n4 n5
  have VB := Lib.hid (TabV.of rb pb)
  clear rb pb
  have n0 : w4.cell? ⟨X, 0, none⟩ = some (.slice n.calA n.cals.length n.calC) := (HNP.out.below HB4.out).box 0 _ rfl
  have n1 : w4.cell? ⟨X, 1, none⟩ = some (.slice n.namA n.names.length n.namC) := (HNP.out.below HB4.out).box 1 _ rfl
  have n2 : w4.cell? ⟨X, 2, none⟩ = some (.slice n.opA n.ops.length n.opC) := (HNP.out.below HB4.out).box 2 _ rfl
  have n3 : w4.cell? ⟨X, 3, none⟩ = some (.slice n.offA n.offs.length n.offC) := (HNP.out.below HB4.out).box 3 _ rfl
  have n4 : w4.cell? ⟨X, 4, none⟩ = some (.slice n.linA n.lins.length n.linC) := (HNP.out.below HB4.out).box 4 _ rfl
  have n5 : w4.cell? ⟨X, 5, none⟩ = some (.slice n.clsA n.clss.length n.clsC) := (HNP.out.below HB4.out).box 5 _ rfl
  go_wp2_with fail
  refine (table_any n A c nx (fr : Int) ((fr : Int) + 1 + (p : Int) + 1 + (q : Int)) _ (HNP.out.below HB4.out).net (HT.out.below HB4.out) HXL.out (HK.out.below HB4.out) HS.out HF.out (by omega) (by omega) (by omega) (by omega)).mono ?_
  rintro e w5 ⟨gc, xsc, rfl, -, -, rc, -, pc, hb⟩
  have HB5 := Lib.hid (bt HB4.out hb)
  have VA5 := Lib.hid (VA4.out.below hb)
  have VB5 := Lib.hid (VB.out.below hb)
  clear hb n0 n1 n2 n3 n4 n5
  have VC := Lib.hid (TabV.of rc pc)
  clear rc pc
  clear VA VA4 VB
  have n0 : w5.cell? ⟨X, 0, none⟩ = some (.slice n.calA n.cals.length n.calC) := (HNP.out.below HB5.out).box 0 _ rfl
  have n1 : w5.cell? ⟨X, 1, none⟩ = some (.slice n.namA n.names.length n.namC) := (HNP.out.below HB5.out).box 1 _ rfl
  have n2 : w5.cell? ⟨X, 2, none⟩ = some (.slice n.opA n.ops.length n.opC) := (HNP.out.below HB5.out).box 2 _ rfl
  have n3 : w5.cell? ⟨X, 3, none⟩ = some (.slice n.offA n.offs.length n.offC) := (HNP.out.below HB5.out).box 3 _ rfl
  have n4 : w5.cell? ⟨X, 4, none⟩ = some (.slice n.linA n.lins.length n.linC) := (HNP.out.below HB5.out).box 4 _ rfl
  have n5 : w5.cell? ⟨X, 5, none⟩ = some (.slice n.clsA n.clss.length n.clsC) := (HNP.out.below HB5.out).box 5 _ rfl
  go_wp2_with fail
  refine (rdays_any n ga _ _ (HNP.out.below HB5.out).net VA5.out).mono ?_
  rintro e w6 ⟨rfl, hb⟩
  have HB6 := Lib.hid (bt HB5.out hb)
  have VA6 := Lib.hid (VA5.out.below hb)
  have VB6 := Lib.hid (VB5.out.below hb)
  have VC6 := Lib.hid (VC.out.below hb)
  clear VA5 VB5 VC
  clear hb n0 n1 n2 n3 n4 n5
  have n0 : w6.cell? ⟨X, 0, none⟩ = some (.slice n.calA n.cals.length n.calC) := (HNP.out.below HB6.out).box 0 _ rfl
  have n1 : w6.cell? ⟨X, 1, none⟩ = some (.slice n.namA n.names.length n.namC) := (HNP.out.below HB6.out).box 1 _ rfl
  have n2 : w6.cell? ⟨X, 2, none⟩ = some (.slice n.opA n.ops.length n.opC) := (HNP.out.below HB6.out).box 2 _ rfl
  have n3 : w6.cell? ⟨X, 3, none⟩ = some (.slice n.offA n.offs.length n.offC) := (HNP.out.below HB6.out).box 3 _ rfl
  have n4 : w6.cell? ⟨X, 4, none⟩ = some (.slice n.linA n.lins.length n.linC) := (HNP.out.below HB6.out).box 4 _ rfl
  have n5 : w6.cell? ⟨X, 5, none⟩ = some (.slice n.clsA n.clss.length n.clsC) := (HNP.out.below HB6.out).box 5 _ rfl
  go_wp2_with fail
  refine (rdays_any n gb _ _ (HNP.out.below HB6.out).net VB6.out).mono ?_
  rintro e w7 ⟨rfl, hb⟩
  have HB7 := Lib.hid (bt HB6.out hb)
  have VA7 := Lib.hid (VA6.out.below hb)
  have VB7 := Lib.hid (VB6.out.below hb)
  have VC7 := Lib.hid (VC6.out.below hb)
  clear VA6 VB6 VC6
  clear hb n0 n1 n2 n3 n4 n5
  have n0 : w7.cell? ⟨X, 0, none⟩ = some (.slice n.calA n.cals.length n.calC) := (HNP.out.below HB7.out).box 0 _ rfl
  have n1 : w7.cell? ⟨X, 1, none⟩ = some (.slice n.namA n.names.length n.namC) := (HNP.out.below HB7.out).box 1 _ rfl
  have n2 : w7.cell? ⟨X, 2, none⟩ = some (.slice n.opA n.ops.length n.opC) := (HNP.out.below HB7.out).box 2 _ rfl
  have n3 : w7.cell? ⟨X, 3, none⟩ = some (.slice n.offA n.offs.length n.offC) := (HNP.out.below HB7.out).box 3 _ rfl
  have n4 : w7.cell? ⟨X, 4, none⟩ = some (.slice n.linA n.lins.length n.linC) := (HNP.out.below HB7.out).box 4 _ rfl
  have n5 : w7.cell? ⟨X, 5, none⟩ = some (.slice n.clsA n.clss.length n.clsC) := (HNP.out.below HB7.out).box 5 _ rfl
  go_wp2_with fail
  refine (rdays_any n gc _ _ (HNP.out.below HB7.out).net VC7.out).mono ?_
  rintro e w8 ⟨rfl, hb⟩
  have HB8 := Lib.hid (bt HB7.out hb)
  have VA8 := Lib.hid (VA7.out.below hb)
  have VB8 := Lib.hid (VB7.out.below hb)
  have VC8 := Lib.hid (VC7.out.below hb)
  clear VA7 VB7 VC7
  clear hb n0 n1 n2 n3 n4 n5
  generalize hfx : (fun k o d => mostR n nx k o d (fr : Int) ((fr : Int) + 1 + (p : Int))) = fx at VA8
  generalize hfy : (fun k o d => mostR n nx k o d ((fr : Int) + 1 + (p : Int)) ((fr : Int) + 1 + (p : Int) + 1 + (q : Int))) = fy at VB8
  generalize hfz : (fun k o d => mostR n nx k o d (fr : Int) ((fr : Int) + 1 + (p : Int) + 1 + (q : Int))) = fz at VC8
  have HXYZ : Hid (∀ k < n.clss.length, ∀ o d, -1 ≤ fz k o d ∧ (fz k o d = max (fx k o d) (fy k o d) ∨ fz k o d = -1 ∧ min (fx k o d) (fy k o d) < 0)) := fun k hk o d => by
    rw [← hfx, ← hfy, ← hfz]
    exact HMP.out k hk o d
  clear hfx hfy hfz HMP mf mp mq wa wb wc
  generalize n.clss.length = C at *
  generalize n.offs.length = N at *
  go_wp2_with fail
  go_loop [18] (fun i => ∃ k : Nat, k ≤ C ∧ i = iV k) (fun i => 60 - (intOf i).toNat)
  case atStart => exact ⟨0, by omega, rfl⟩
  case round =>
  obtain ⟨k, hk, rfl⟩ := hrel
  have k0 : (0 : Int) ≤ (k : Int) := by omega
  by_cases hkt : k < C
  case neg =>
    have k1 : ¬ (k : Int) < (C : Int) := by omega
    go_wp2_with fail
    go_ret
    exact ⟨rfl, HNB.out _ HB8.out⟩
  have k1 : (k : Int) < (C : Int) := by omega
  obtain ⟨x2, cx2, hx2⟩ := VA8.out k hkt
  obtain ⟨y2, cy2, hy2⟩ := VB8.out k hkt
  obtain ⟨z2, cz2, hz2⟩ := VC8.out k hkt
  have HX2 := Lib.hid hx2
  have HY2 := Lib.hid hy2
  have HZ2 := Lib.hid hz2
  clear hx2 hy2 hz2
  go_wp2_with fail
  go_loop [19] (fun i => ∃ o : Nat, o ≤ N ∧ i = iV o) (fun i => 60 - (intOf i).toNat)
  case atStart => exact ⟨0, by omega, rfl⟩
  case round =>
  obtain ⟨o, ho, rfl⟩ := hrel
  have o0 : (0 : Int) ≤ (o : Int) := by omega
  by_cases hot : o < N
  case neg =>
    have o1 : ¬ (o : Int) < (N : Int) := by omega
    go_wp2_with fail
    go_round
    case rel => exact ⟨k + 1, by omega, by go_num⟩
    case measure => simp [intOf]; omega
  have o1 : (o : Int) < (N : Int) := by omega
  obtain ⟨x3, cx3, hx3⟩ := HX2.out o hot
  obtain ⟨y3, cy3, hy3⟩ := HY2.out o hot
  obtain ⟨z3, cz3, hz3⟩ := HZ2.out o hot
  have HX3 := Lib.hid hx3
  have HY3 := Lib.hid hy3
  have HZ3 := Lib.hid hz3
  clear hx3 hy3 hz3
  go_wp2_with fail
  go_loop [20] (fun i => ∃ d : Nat, d ≤ N ∧ i = iV d) (fun i => 60 - (intOf i).toNat)
  case atStart => exact ⟨0, by omega, rfl⟩
  case round =>
  obtain ⟨d, hd, rfl⟩ := hrel
  have d0 : (0 : Int) ≤ (d : Int) := by omega
  by_cases hdt : d < N
  case neg =>
    have d1 : ¬ (d : Int) < (N : Int) := by omega
    go_wp2_with fail
    go_round
    case rel => exact ⟨o + 1, by omega, by go_num⟩
    case measure => simp [intOf]; omega
  have d1 : (d : Int) < (N : Int) := by omega
  have ex := HX3.out d hdt
  have ey := HY3.out d hdt
  have ez := HZ3.out d hdt
  obtain ⟨r1, r2⟩ := HXYZ.out k hkt o d
  generalize fx k o d = X1 at *
  generalize fy k o d = Y1 at *
  generalize fz k o d = Z1 at *
  have t1 : ¬ Z1 < -1 := by omega
  rcases r2 with rfl | ⟨rfl, r3⟩
  · have g1 : (max X1 Y1 != max X1 Y1) = false := by simp
    go_wp2_with fail
    go_round
    case rel => exact ⟨d + 1, by omega, by go_num⟩
    case measure => simp [intOf]; omega
  · by_cases hm : (-1 : Int) = max X1 Y1
    · have g1 : ((-1 : Int) != max X1 Y1) = false := by rw [← hm]; rfl
      clear hm
      go_wp2_with fail
      go_round
      case rel => exact ⟨d + 1, by omega, by go_num⟩
      case measure => simp [intOf]; omega
    · have g1 : ((-1 : Int) != max X1 Y1) = true := by simpa using hm
      have g2 : ¬ 0 ≤ min X1 Y1 := by omega
      clear hm
      go_wp2_with fail
      go_round
      case rel => exact ⟨d + 1, by omega, by go_num⟩
      case measure => simp [intOf]; omega
end Go.Proofs.YtldkmljjmnaefaaGreatDoor
