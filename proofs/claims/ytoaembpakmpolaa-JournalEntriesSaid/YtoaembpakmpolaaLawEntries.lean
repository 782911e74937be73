/-
  The walk over JournalEntries. (Written by a program: wip/jou/gen_lawent.py.)
-/
import Derived.Test.YtoaembpakmpolaaJouOpenLog
namespace Go.Proofs.Ytoaembpakmpolaa
open Go.RowKit Jou
attribute [local go_sem] ba_get ba_extract ba_append

/-- What stands throughout: the entry in its box, the bytes. -/
def En (w : World) (e : Log) (AC : Option Addr) (cc : Nat) (AP : Option Addr) (cp : Nat) (B : Option Addr) (d : Nat) (b : List UInt8) (W : World) : Prop :=
  Below w.heap.size w W ∧ W.heap[w.heap.size]? = some (.cells (logCells e AC cc AP cp) 37 (0, 0)) ∧ Lg W e AC AP ∧ Bs W B d b
theorem En.below {w : World} {e : Log} {AC : Option Addr} {cc : Nat} {AP : Option Addr} {cp : Nat} {B : Option Addr} {d : Nat} {b : List UInt8} {W W' : World} (h : En w e AC cc AP cp B d b W) (hb : Below W.heap.size W W') : En w e AC cc AP cp B d b W' :=
  ⟨h.1.trans (hb.mono h.1.size), (hb.block _ (block_lt h.2.1)).trans h.2.1, h.2.2.1.below hb, h.2.2.2.below hb⟩
theorem En.new {w : World} {e : Log} {AC : Option Addr} (cc : Nat) {AP : Option Addr} (cp : Nat) {B : Option Addr} {d : Nat} {b : List UInt8} (hL : Lg w e AC AP) (hB : Bs w B d b) : En w e AC cc AP cp B d b (w.alloc (.cells (logCells e AC cc AP cp) 37)) :=
  ⟨ba _ _, heap_alloc_new _ _, hL.below (ba _ _), hB.below (ba _ _)⟩
theorem log_new2 (w1 : World) (cs : Array Value) : ((w1.alloc (.cells zeroCells 37)).setRow w1.heap.size cs).heap[w1.heap.size]? = some (.cells cs 37 (0, 0)) ∧ Below w1.heap.size w1 ((w1.alloc (.cells zeroCells 37)).setRow w1.heap.size cs) :=
  (log_new (Below.refl w1.heap.size w1) cs).2

set_option maxHeartbeats 8000000 in
set_option maxRecDepth 100000 in
theorem entries_nn (e : Log) (AC : Option Addr) (cc : Nat) (AP : Option Addr) (cp : Nat) (B : Option Addr) (d : Nat) (b : List UInt8) (w : World) (hL : Lg w e AC AP) (hB : Bs w B d b) (henc : encode e = none) (hdec : Jou.decode b = none) :
    Calls Try.prog 4 #[.agg (logCells e AC cc AP cp), .slice B b.length d] w fun x w' => x = .returned (.bool true) ∧ Below w.heap.size w w' := by
  have hbm : b.length ≤ 9223372036854775807 := by have := hB.2.2; unfold maxLen at this; omega
  have HE0 := Lib.hid (En.new cc cp hL hB)
  have HIN := Lib.hid hL.1
  clear hL hB
  have HENC := Lib.hid henc; clear henc
  have HDEC := Lib.hid hdec; clear hdec
  go_enter Try.func4, Try.ntmps4
  go_wp2_with fail
  refine (head_any _).mono ?_
  rintro x w1 ⟨rfl, hb1⟩
  have HE1 := Lib.hid (HE0.out.below hb1)
  clear hb1 HE0
  go_wp2_with (first | (refine wpList_load_row (by rfl) 37 (.tmp 2) (by rfl) w.heap.size (by rfl) 37 (logCells e AC cc AP cp) (0, 0) _ HE1.out.2.1 Try.underlying37 rfl lgInf ?_))
  refine (short_any e AC AP cc cp _ HE1.out.2.2.1.2.1 HIN.out).mono ?_
  rintro x w2 ⟨bs, rfl, hP, hb2⟩
  have HP := Lib.hid hP; clear hP
  have HE2 := Lib.hid (HE1.out.below hb2)
  clear hb2 HE1
  cases bs with
  | false =>
    go_wp2_with fail
    exact bodyPost_ret (v := .bool true) (by simp [results, Try.results4, go_sem]) rfl ⟨rfl, HE2.out.1⟩
  | true =>
  have HOK := Lib.hid (ok_of_in HIN.out (HP.out rfl))
  by_cases h4 : 4000 < b.length
  · have g4 : (4000 : Int) < (b.length : Int) := by omega
    go_wp2_with fail
    all_goals exact bodyPost_ret (v := .bool true) (by simp [results, Try.results4, go_sem]) rfl ⟨rfl, HE2.out.1⟩
  have g4 : ¬ (4000 : Int) < (b.length : Int) := by omega
  go_wp2_with (first | (refine wpList_load_row (by rfl) 37 (.tmp 2) (by rfl) w.heap.size (by rfl) 37 (logCells e AC cc AP cp) (0, 0) _ HE2.out.2.1 Try.underlying37 rfl lgInf ?_))
  refine (encode_any e AC cc AP cp _ HOK.out HE2.out.2.2.1.2.1 HE2.out.2.2.1.2.2.1 HE2.out.2.2.1.2.2.2.1 HE2.out.2.2.1.2.2.2.2).mono ?_
  rintro x w3 ⟨hb3, hres⟩
  rw [HENC.out] at hres
  have HE3 := Lib.hid (HE2.out.below hb3)
  clear hb3 HE2
  subst hres
  go_wp2_with fail
  refine (decode_any b B d _ HE3.out.2.2.2.1 HE3.out.2.2.2.2.1 HE3.out.2.2.2.2.2.1 HE3.out.2.2.2.2.2.2).mono ?_
  rintro x w7 ⟨hb7, AC7, cc7, AP7, cp7, rfl, hC7, hP7, hCl7, hPl7⟩
  have hz : decodeR b = (zeroLog, 400) := by unfold decodeR; rw [HDEC.out]
  rw [hz] at hC7 hP7 ⊢
  have HN7 := Lib.hid (log_new2 w7 (logCells zeroLog AC7 cc7 AP7 cp7))
  have HE8 := Lib.hid ((HE3.out.below hb7).below HN7.out.2)
  have HR8 := Lib.hid (And.intro (hC7.below HN7.out.2) (hP7.below HN7.out.2))
  clear hb7 hC7 hP7 hCl7 hPl7 HE3 hz
  go_wp2_with (first | (refine wpList_store_row (by rfl) 37 (.tmp 9) (.tmp 47) (by rfl) w7.heap.size (logCells zeroLog AC7 cc7 AP7 cp7) (by rfl) (by rfl) 37 zeroCells (heap_alloc_new _ _) lgInf rfl (logCells_one _ _ _ _ _) ?_) | (refine wpList_step (fun K hK => ?_); rw [if_pos (by rfl)]; refine wp_load_row 37 (.tmp 9) (by rfl) w7.heap.size (by rfl) 37 (logCells zeroLog AC7 cc7 AP7 cp7) (0, 0) _ HN7.out.1 Try.underlying37 rfl lgInf (hK _ _ ?_); clear hK K))
  refine (same_same zeroLog AC7 AP7 none none cc7 cp7 0 0 _ HR8.out.1 (Rd.nil _ _) HR8.out.2 (Rd.nil _ _) (Nat.zero_le _) (Nat.zero_le _)).mono ?_
  rintro x w9 ⟨rfl, hb9⟩
  have HE9 := Lib.hid (HE8.out.below hb9)
  clear hb9 HE8 HR8 HN7
  go_wp2_with fail
  exact bodyPost_ret (v := .bool true) (by simp [results, Try.results4, go_sem]) rfl ⟨rfl, HE9.out.1⟩
set_option maxHeartbeats 8000000 in
set_option maxRecDepth 100000 in
theorem entries_ns (e : Log) (AC : Option Addr) (cc : Nat) (AP : Option Addr) (cp : Nat) (B : Option Addr) (d : Nat) (b : List UInt8) (w : World) (hL : Lg w e AC AP) (hB : Bs w B d b) (henc : encode e = none) (q : Log) (hdec : Jou.decode b = some q) :
    Calls Try.prog 4 #[.agg (logCells e AC cc AP cp), .slice B b.length d] w fun x w' => x = .returned (.bool true) ∧ Below w.heap.size w w' := by
  have hbm : b.length ≤ 9223372036854775807 := by have := hB.2.2; unfold maxLen at this; omega
  have HE0 := Lib.hid (En.new cc cp hL hB)
  have HIN := Lib.hid hL.1
  clear hL hB
  have HENC := Lib.hid henc; clear henc
  have HDEC := Lib.hid hdec; clear hdec
  go_enter Try.func4, Try.ntmps4
  go_wp2_with fail
  refine (head_any _).mono ?_
  rintro x w1 ⟨rfl, hb1⟩
  have HE1 := Lib.hid (HE0.out.below hb1)
  clear hb1 HE0
  go_wp2_with (first | (refine wpList_load_row (by rfl) 37 (.tmp 2) (by rfl) w.heap.size (by rfl) 37 (logCells e AC cc AP cp) (0, 0) _ HE1.out.2.1 Try.underlying37 rfl lgInf ?_))
  refine (short_any e AC AP cc cp _ HE1.out.2.2.1.2.1 HIN.out).mono ?_
  rintro x w2 ⟨bs, rfl, hP, hb2⟩
  have HP := Lib.hid hP; clear hP
  have HE2 := Lib.hid (HE1.out.below hb2)
  clear hb2 HE1
  cases bs with
  | false =>
    go_wp2_with fail
    exact bodyPost_ret (v := .bool true) (by simp [results, Try.results4, go_sem]) rfl ⟨rfl, HE2.out.1⟩
  | true =>
  have HOK := Lib.hid (ok_of_in HIN.out (HP.out rfl))
  by_cases h4 : 4000 < b.length
  · have g4 : (4000 : Int) < (b.length : Int) := by omega
    go_wp2_with fail
    all_goals exact bodyPost_ret (v := .bool true) (by simp [results, Try.results4, go_sem]) rfl ⟨rfl, HE2.out.1⟩
  have g4 : ¬ (4000 : Int) < (b.length : Int) := by omega
  go_wp2_with (first | (refine wpList_load_row (by rfl) 37 (.tmp 2) (by rfl) w.heap.size (by rfl) 37 (logCells e AC cc AP cp) (0, 0) _ HE2.out.2.1 Try.underlying37 rfl lgInf ?_))
  refine (encode_any e AC cc AP cp _ HOK.out HE2.out.2.2.1.2.1 HE2.out.2.2.1.2.2.1 HE2.out.2.2.1.2.2.2.1 HE2.out.2.2.1.2.2.2.2).mono ?_
  rintro x w3 ⟨hb3, hres⟩
  rw [HENC.out] at hres
  have HE3 := Lib.hid (HE2.out.below hb3)
  clear hb3 HE2
  subst hres
  go_wp2_with fail
  refine (decode_any b B d _ HE3.out.2.2.2.1 HE3.out.2.2.2.2.1 HE3.out.2.2.2.2.2.1 HE3.out.2.2.2.2.2.2).mono ?_
  rintro x w7 ⟨hb7, AC7, cc7, AP7, cp7, rfl, hC7, hP7, hCl7, hPl7⟩
  have hz : decodeR b = (q, 0) := by unfold decodeR; rw [HDEC.out]
  rw [hz] at hC7 hP7 ⊢
  have HED := Lib.hid (enc_dec HDEC.out)
  have HN7 := Lib.hid (log_new2 w7 (logCells q AC7 cc7 AP7 cp7))
  have HE8 := Lib.hid ((HE3.out.below hb7).below HN7.out.2)
  have HR8 := Lib.hid (And.intro (hC7.below HN7.out.2) (And.intro (hP7.below HN7.out.2) (And.intro (hCl7.mono HN7.out.2.size) (hPl7.mono HN7.out.2.size))))
  clear hb7 hC7 hP7 hCl7 hPl7 HE3 hz
  go_wp2_with (first | (refine wpList_store_row (by rfl) 37 (.tmp 9) (.tmp 47) (by rfl) w7.heap.size (logCells q AC7 cc7 AP7 cp7) (by rfl) (by rfl) 37 zeroCells (heap_alloc_new _ _) lgInf rfl (logCells_one _ _ _ _ _) ?_) | (refine wpList_step (fun K hK => ?_); rw [if_pos (by rfl)]; refine wp_load_row 37 (.tmp 9) (by rfl) w7.heap.size (by rfl) 37 (logCells q AC7 cc7 AP7 cp7) (0, 0) _ HN7.out.1 Try.underlying37 rfl lgInf (hK _ _ ?_); clear hK K))
  refine (encode_any q AC7 cc7 AP7 cp7 _ HED.out.2.1 HR8.out.1 HR8.out.2.1 HR8.out.2.2.1 HR8.out.2.2.2).mono ?_
  rintro x w9 ⟨hb9, hres⟩
  rw [HED.out.1] at hres
  obtain ⟨A9, c9, rfl, hown9⟩ := hres
  have HBs9 := Lib.hid (Bs.of_own hown9)
  have HE9 := Lib.hid (HE8.out.below hb9)
  clear hb9 HE8 HR8 HN7 hown9
  go_wp2_with fail
  refine (bytes_any b b A9 B c9 d _ HBs9.out.1 HE9.out.2.2.2.1 (by have := HE9.out.2.2.2.2.2; omega)).mono ?_
  rintro x w10 ⟨rfl, n10, rfl⟩
  rw [decide_eq_true (rfl : b = b)]
  have HB10 := Lib.hid (below_drewN HE9.out.1 n10)
  clear HE9 HBs9
  go_wp2_with fail
  exact bodyPost_ret (v := .bool true) (by simp [results, Try.results4, go_sem]) rfl ⟨rfl, HB10.out⟩
set_option maxHeartbeats 8000000 in
set_option maxRecDepth 100000 in
theorem entries_sn (e : Log) (AC : Option Addr) (cc : Nat) (AP : Option Addr) (cp : Nat) (B : Option Addr) (d : Nat) (b : List UInt8) (w : World) (hL : Lg w e AC AP) (hB : Bs w B d b) (c : List UInt8) (henc : encode e = some c) (hdec : Jou.decode b = none) :
    Calls Try.prog 4 #[.agg (logCells e AC cc AP cp), .slice B b.length d] w fun x w' => x = .returned (.bool true) ∧ Below w.heap.size w w' := by
  have hbm : b.length ≤ 9223372036854775807 := by have := hB.2.2; unfold maxLen at this; omega
  have HE0 := Lib.hid (En.new cc cp hL hB)
  have HIN := Lib.hid hL.1
  clear hL hB
  have HENC := Lib.hid henc; clear henc
  have HDEC := Lib.hid hdec; clear hdec
  go_enter Try.func4, Try.ntmps4
  go_wp2_with fail
  refine (head_any _).mono ?_
  rintro x w1 ⟨rfl, hb1⟩
  have HE1 := Lib.hid (HE0.out.below hb1)
  clear hb1 HE0
  go_wp2_with (first | (refine wpList_load_row (by rfl) 37 (.tmp 2) (by rfl) w.heap.size (by rfl) 37 (logCells e AC cc AP cp) (0, 0) _ HE1.out.2.1 Try.underlying37 rfl lgInf ?_))
  refine (short_any e AC AP cc cp _ HE1.out.2.2.1.2.1 HIN.out).mono ?_
  rintro x w2 ⟨bs, rfl, hP, hb2⟩
  have HP := Lib.hid hP; clear hP
  have HE2 := Lib.hid (HE1.out.below hb2)
  clear hb2 HE1
  cases bs with
  | false =>
    go_wp2_with fail
    exact bodyPost_ret (v := .bool true) (by simp [results, Try.results4, go_sem]) rfl ⟨rfl, HE2.out.1⟩
  | true =>
  have HOK := Lib.hid (ok_of_in HIN.out (HP.out rfl))
  by_cases h4 : 4000 < b.length
  · have g4 : (4000 : Int) < (b.length : Int) := by omega
    go_wp2_with fail
    all_goals exact bodyPost_ret (v := .bool true) (by simp [results, Try.results4, go_sem]) rfl ⟨rfl, HE2.out.1⟩
  have g4 : ¬ (4000 : Int) < (b.length : Int) := by omega
  go_wp2_with (first | (refine wpList_load_row (by rfl) 37 (.tmp 2) (by rfl) w.heap.size (by rfl) 37 (logCells e AC cc AP cp) (0, 0) _ HE2.out.2.1 Try.underlying37 rfl lgInf ?_))
  refine (encode_any e AC cc AP cp _ HOK.out HE2.out.2.2.1.2.1 HE2.out.2.2.1.2.2.1 HE2.out.2.2.1.2.2.2.1 HE2.out.2.2.1.2.2.2.2).mono ?_
  rintro x w3 ⟨hb3, hres⟩
  rw [HENC.out] at hres
  have HE3 := Lib.hid (HE2.out.below hb3)
  clear hb3 HE2
  obtain ⟨Ab, cb, rfl, hown3⟩ := hres
  have hde := dec_enc e HIN.out c HENC.out
  have HDE := Lib.hid hde.1
  have g5 : (0 : Int) < (c.length : Int) := by have := hde.2.1; omega
  have g6 : ¬ (3000 : Int) < (c.length : Int) := by have := hde.2.2; omega
  have g7 : 0 < c.length := hde.2.1
  have g8 : ¬ 3000 < c.length := by have := hde.2.2; omega
  clear hde
  have HBs3 := Lib.hid (Bs.of_own hown3)
  clear hown3
  go_wp2_with fail
  refine (decode_any c Ab cb w3 HBs3.out.1 HBs3.out.2.1 HBs3.out.2.2.1 HBs3.out.2.2.2).mono ?_
  rintro x w4 ⟨hb4, AC4, cc4, AP4, cp4, rfl, hC4, hP4, hCl4, hPl4⟩
  rw [HDE.out] at hC4 hP4 ⊢
  have HN4 := Lib.hid (log_new2 w4 (logCells e AC4 cc4 AP4 cp4))
  have HE5 := Lib.hid ((HE3.out.below hb4).below HN4.out.2)
  have HR5 := Lib.hid (And.intro (hC4.below HN4.out.2) (hP4.below HN4.out.2))
  clear hb4 hC4 hP4 hCl4 hPl4 HE3 HBs3
  go_wp2_with (first | (refine wpList_store_row (by rfl) 37 (.tmp 7) (.tmp 29) (by rfl) w4.heap.size (logCells e AC4 cc4 AP4 cp4) (by rfl) (by rfl) 37 zeroCells (heap_alloc_new _ _) lgInf rfl (logCells_one _ _ _ _ _) ?_) | (refine wpList_step (fun K hK => ?_); rw [if_pos (by rfl)]; refine wp_load_row 37 (.tmp 7) (by rfl) w4.heap.size (by rfl) 37 (logCells e AC4 cc4 AP4 cp4) (0, 0) _ HN4.out.1 Try.underlying37 rfl lgInf (hK _ _ ?_); clear hK K) | (refine wpList_step (fun K hK => ?_); rw [if_pos (by rfl)]; refine wp_load_row 37 (.tmp 2) (by rfl) w.heap.size (by rfl) 37 (logCells e AC cc AP cp) (0, 0) _ HE5.out.2.1 Try.underlying37 rfl lgInf (hK _ _ ?_); clear hK K))
  refine (same_same e AC4 AP4 AC AP cc4 cp4 cc cp _ HR5.out.1 HE5.out.2.2.1.2.1 HR5.out.2 HE5.out.2.2.1.2.2.1 HIN.out.contents HIN.out.path).mono ?_
  rintro x w6 ⟨rfl, hb6⟩
  have HE6 := Lib.hid (HE5.out.below hb6)
  clear hb6 HE5 HR5 HN4
  go_wp2_with fail
  refine (decode_any b B d _ HE6.out.2.2.2.1 HE6.out.2.2.2.2.1 HE6.out.2.2.2.2.2.1 HE6.out.2.2.2.2.2.2).mono ?_
  rintro x w7 ⟨hb7, AC7, cc7, AP7, cp7, rfl, hC7, hP7, hCl7, hPl7⟩
  have hz : decodeR b = (zeroLog, 400) := by unfold decodeR; rw [HDEC.out]
  rw [hz] at hC7 hP7 ⊢
  have HN7 := Lib.hid (log_new2 w7 (logCells zeroLog AC7 cc7 AP7 cp7))
  have HE8 := Lib.hid ((HE6.out.below hb7).below HN7.out.2)
  have HR8 := Lib.hid (And.intro (hC7.below HN7.out.2) (hP7.below HN7.out.2))
  clear hb7 hC7 hP7 hCl7 hPl7 HE6 hz
  go_wp2_with (first | (refine wpList_store_row (by rfl) 37 (.tmp 9) (.tmp 47) (by rfl) w7.heap.size (logCells zeroLog AC7 cc7 AP7 cp7) (by rfl) (by rfl) 37 zeroCells (heap_alloc_new _ _) lgInf rfl (logCells_one _ _ _ _ _) ?_) | (refine wpList_step (fun K hK => ?_); rw [if_pos (by rfl)]; refine wp_load_row 37 (.tmp 9) (by rfl) w7.heap.size (by rfl) 37 (logCells zeroLog AC7 cc7 AP7 cp7) (0, 0) _ HN7.out.1 Try.underlying37 rfl lgInf (hK _ _ ?_); clear hK K))
  refine (same_same zeroLog AC7 AP7 none none cc7 cp7 0 0 _ HR8.out.1 (Rd.nil _ _) HR8.out.2 (Rd.nil _ _) (Nat.zero_le _) (Nat.zero_le _)).mono ?_
  rintro x w9 ⟨rfl, hb9⟩
  have HE9 := Lib.hid (HE8.out.below hb9)
  clear hb9 HE8 HR8 HN7
  go_wp2_with fail
  exact bodyPost_ret (v := .bool true) (by simp [results, Try.results4, go_sem]) rfl ⟨rfl, HE9.out.1⟩
set_option maxHeartbeats 8000000 in
set_option maxRecDepth 100000 in
theorem entries_ss (e : Log) (AC : Option Addr) (cc : Nat) (AP : Option Addr) (cp : Nat) (B : Option Addr) (d : Nat) (b : List UInt8) (w : World) (hL : Lg w e AC AP) (hB : Bs w B d b) (c : List UInt8) (henc : encode e = some c) (q : Log) (hdec : Jou.decode b = some q) :
    Calls Try.prog 4 #[.agg (logCells e AC cc AP cp), .slice B b.length d] w fun x w' => x = .returned (.bool true) ∧ Below w.heap.size w w' := by
  have hbm : b.length ≤ 9223372036854775807 := by have := hB.2.2; unfold maxLen at this; omega
  have HE0 := Lib.hid (En.new cc cp hL hB)
  have HIN := Lib.hid hL.1
  clear hL hB
  have HENC := Lib.hid henc; clear henc
  have HDEC := Lib.hid hdec; clear hdec
  go_enter Try.func4, Try.ntmps4
  go_wp2_with fail
  refine (head_any _).mono ?_
  rintro x w1 ⟨rfl, hb1⟩
  have HE1 := Lib.hid (HE0.out.below hb1)
  clear hb1 HE0
  go_wp2_with (first | (refine wpList_load_row (by rfl) 37 (.tmp 2) (by rfl) w.heap.size (by rfl) 37 (logCells e AC cc AP cp) (0, 0) _ HE1.out.2.1 Try.underlying37 rfl lgInf ?_))
  refine (short_any e AC AP cc cp _ HE1.out.2.2.1.2.1 HIN.out).mono ?_
  rintro x w2 ⟨bs, rfl, hP, hb2⟩
  have HP := Lib.hid hP; clear hP
  have HE2 := Lib.hid (HE1.out.below hb2)
  clear hb2 HE1
  cases bs with
  | false =>
    go_wp2_with fail
    exact bodyPost_ret (v := .bool true) (by simp [results, Try.results4, go_sem]) rfl ⟨rfl, HE2.out.1⟩
  | true =>
  have HOK := Lib.hid (ok_of_in HIN.out (HP.out rfl))
  by_cases h4 : 4000 < b.length
  · have g4 : (4000 : Int) < (b.length : Int) := by omega
    go_wp2_with fail
    all_goals exact bodyPost_ret (v := .bool true) (by simp [results, Try.results4, go_sem]) rfl ⟨rfl, HE2.out.1⟩
  have g4 : ¬ (4000 : Int) < (b.length : Int) := by omega
  go_wp2_with (first | (refine wpList_load_row (by rfl) 37 (.tmp 2) (by rfl) w.heap.size (by rfl) 37 (logCells e AC cc AP cp) (0, 0) _ HE2.out.2.1 Try.underlying37 rfl lgInf ?_))
  refine (encode_any e AC cc AP cp _ HOK.out HE2.out.2.2.1.2.1 HE2.out.2.2.1.2.2.1 HE2.out.2.2.1.2.2.2.1 HE2.out.2.2.1.2.2.2.2).mono ?_
  rintro x w3 ⟨hb3, hres⟩
  rw [HENC.out] at hres
  have HE3 := Lib.hid (HE2.out.below hb3)
  clear hb3 HE2
  obtain ⟨Ab, cb, rfl, hown3⟩ := hres
  have hde := dec_enc e HIN.out c HENC.out
  have HDE := Lib.hid hde.1
  have g5 : (0 : Int) < (c.length : Int) := by have := hde.2.1; omega
  have g6 : ¬ (3000 : Int) < (c.length : Int) := by have := hde.2.2; omega
  have g7 : 0 < c.length := hde.2.1
  have g8 : ¬ 3000 < c.length := by have := hde.2.2; omega
  clear hde
  have HBs3 := Lib.hid (Bs.of_own hown3)
  clear hown3
  go_wp2_with fail
  refine (decode_any c Ab cb w3 HBs3.out.1 HBs3.out.2.1 HBs3.out.2.2.1 HBs3.out.2.2.2).mono ?_
  rintro x w4 ⟨hb4, AC4, cc4, AP4, cp4, rfl, hC4, hP4, hCl4, hPl4⟩
  rw [HDE.out] at hC4 hP4 ⊢
  have HN4 := Lib.hid (log_new2 w4 (logCells e AC4 cc4 AP4 cp4))
  have HE5 := Lib.hid ((HE3.out.below hb4).below HN4.out.2)
  have HR5 := Lib.hid (And.intro (hC4.below HN4.out.2) (hP4.below HN4.out.2))
  clear hb4 hC4 hP4 hCl4 hPl4 HE3 HBs3
  go_wp2_with (first | (refine wpList_store_row (by rfl) 37 (.tmp 7) (.tmp 29) (by rfl) w4.heap.size (logCells e AC4 cc4 AP4 cp4) (by rfl) (by rfl) 37 zeroCells (heap_alloc_new _ _) lgInf rfl (logCells_one _ _ _ _ _) ?_) | (refine wpList_step (fun K hK => ?_); rw [if_pos (by rfl)]; refine wp_load_row 37 (.tmp 7) (by rfl) w4.heap.size (by rfl) 37 (logCells e AC4 cc4 AP4 cp4) (0, 0) _ HN4.out.1 Try.underlying37 rfl lgInf (hK _ _ ?_); clear hK K) | (refine wpList_step (fun K hK => ?_); rw [if_pos (by rfl)]; refine wp_load_row 37 (.tmp 2) (by rfl) w.heap.size (by rfl) 37 (logCells e AC cc AP cp) (0, 0) _ HE5.out.2.1 Try.underlying37 rfl lgInf (hK _ _ ?_); clear hK K))
  refine (same_same e AC4 AP4 AC AP cc4 cp4 cc cp _ HR5.out.1 HE5.out.2.2.1.2.1 HR5.out.2 HE5.out.2.2.1.2.2.1 HIN.out.contents HIN.out.path).mono ?_
  rintro x w6 ⟨rfl, hb6⟩
  have HE6 := Lib.hid (HE5.out.below hb6)
  clear hb6 HE5 HR5 HN4
  go_wp2_with fail
  refine (decode_any b B d _ HE6.out.2.2.2.1 HE6.out.2.2.2.2.1 HE6.out.2.2.2.2.2.1 HE6.out.2.2.2.2.2.2).mono ?_
  rintro x w7 ⟨hb7, AC7, cc7, AP7, cp7, rfl, hC7, hP7, hCl7, hPl7⟩
  have hz : decodeR b = (q, 0) := by unfold decodeR; rw [HDEC.out]
  rw [hz] at hC7 hP7 ⊢
  have HED := Lib.hid (enc_dec HDEC.out)
  have HN7 := Lib.hid (log_new2 w7 (logCells q AC7 cc7 AP7 cp7))
  have HE8 := Lib.hid ((HE6.out.below hb7).below HN7.out.2)
  have HR8 := Lib.hid (And.intro (hC7.below HN7.out.2) (And.intro (hP7.below HN7.out.2) (And.intro (hCl7.mono HN7.out.2.size) (hPl7.mono HN7.out.2.size))))
  clear hb7 hC7 hP7 hCl7 hPl7 HE6 hz
  go_wp2_with (first | (refine wpList_store_row (by rfl) 37 (.tmp 9) (.tmp 47) (by rfl) w7.heap.size (logCells q AC7 cc7 AP7 cp7) (by rfl) (by rfl) 37 zeroCells (heap_alloc_new _ _) lgInf rfl (logCells_one _ _ _ _ _) ?_) | (refine wpList_step (fun K hK => ?_); rw [if_pos (by rfl)]; refine wp_load_row 37 (.tmp 9) (by rfl) w7.heap.size (by rfl) 37 (logCells q AC7 cc7 AP7 cp7) (0, 0) _ HN7.out.1 Try.underlying37 rfl lgInf (hK _ _ ?_); clear hK K))
  refine (encode_any q AC7 cc7 AP7 cp7 _ HED.out.2.1 HR8.out.1 HR8.out.2.1 HR8.out.2.2.1 HR8.out.2.2.2).mono ?_
  rintro x w9 ⟨hb9, hres⟩
  rw [HED.out.1] at hres
  obtain ⟨A9, c9, rfl, hown9⟩ := hres
  have HBs9 := Lib.hid (Bs.of_own hown9)
  have HE9 := Lib.hid (HE8.out.below hb9)
  clear hb9 HE8 HR8 HN7 hown9
  go_wp2_with fail
  refine (bytes_any b b A9 B c9 d _ HBs9.out.1 HE9.out.2.2.2.1 (by have := HE9.out.2.2.2.2.2; omega)).mono ?_
  rintro x w10 ⟨rfl, n10, rfl⟩
  rw [decide_eq_true (rfl : b = b)]
  have HB10 := Lib.hid (below_drewN HE9.out.1 n10)
  clear HE9 HBs9
  go_wp2_with fail
  exact bodyPost_ret (v := .bool true) (by simp [results, Try.results4, go_sem]) rfl ⟨rfl, HB10.out⟩
theorem entries_walk (e : Log) (AC : Option Addr) (cc : Nat) (AP : Option Addr) (cp : Nat) (B : Option Addr) (d : Nat) (b : List UInt8) (w : World) (hL : Lg w e AC AP) (hB : Bs w B d b) :
    Calls Try.prog 4 #[.agg (logCells e AC cc AP cp), .slice B b.length d] w fun x w' => x = .returned (.bool true) ∧ Below w.heap.size w w' := by
  cases henc : encode e with
  | none =>
    cases hdec : Jou.decode b with
    | none => exact entries_nn e AC cc AP cp B d b w hL hB henc hdec
    | some q => exact entries_ns e AC cc AP cp B d b w hL hB henc q hdec
  | some c =>
    cases hdec : Jou.decode b with
    | none => exact entries_sn e AC cc AP cp B d b w hL hB c henc hdec
    | some q => exact entries_ss e AC cc AP cp B d b w hL hB c henc q hdec
end Go.Proofs.Ytoaembpakmpolaa
