/-
  The walk over JournalTails.
-/
import Derived.Test.YtoaembpakmpolaaJouHead2
import Derived.Test.YtoaembpakmpolaaJouThe
namespace Go.Proofs.Ytoaembpakmpolaa
open Go.RowKit Jou
attribute [local go_sem] ba_get ba_extract ba_append

theorem append_tail (j b : List UInt8) (hb : Jou.Good b) : appendR (j.take (offs (recs j) (recs j).length)) b = appendR j b := by
  rw [take_offs]
  by_cases h : (recs j).length < 500
  · rw [append_ok j b hb h, append_ok (frs (recs j)) b hb (by rw [recs_tail]; exact h), recs_tail]
  · rw [append_full j b hb h, append_full (frs (recs j)) b hb (by rw [recs_tail]; exact h)]
set_option maxHeartbeats 8000000 in
set_option maxRecDepth 100000 in
theorem tails_walk (j b : List UInt8) (A B : Option Addr) (c d : Nat) (w : World) (hA : Bs w A c j) (hB : Bs w B d b) :
    Calls Try.prog 7 #[.slice A j.length c, .slice B b.length d] w fun e w' => e = .returned (.bool true) ∧ Below w.heap.size w w' := by
  have HA := Lib.hid hA; clear hA
  have HB := Lib.hid hB; clear hB
  have hjm : j.length ≤ 9223372036854775807 := by have := HA.out.2.2; unfold maxLen at this; omega
  have hbm : b.length ≤ 9223372036854775807 := by have := HB.out.2.2; unfold maxLen at this; omega
  by_cases h1 : 6000 < j.length
  · go_enter Try.func7, Try.ntmps7
    go_wp2_with fail
    refine (head_any w).mono ?_
    rintro e w1 ⟨rfl, hb1⟩
    have HB1 := Lib.hid hb1; clear hb1
    go_wp2_with fail
    all_goals exact bodyPost_ret (v := .bool true) (by simp [results, Try.results7, go_sem]) rfl ⟨rfl, HB1.out⟩
  by_cases h2 : b.length < 1
  · go_enter Try.func7, Try.ntmps7
    go_wp2_with fail
    refine (head_any w).mono ?_
    rintro e w1 ⟨rfl, hb1⟩
    have HB1 := Lib.hid hb1; clear hb1
    go_wp2_with fail
    all_goals exact bodyPost_ret (v := .bool true) (by simp [results, Try.results7, go_sem]) rfl ⟨rfl, HB1.out⟩
  by_cases h3 : 300 < b.length
  · go_enter Try.func7, Try.ntmps7
    go_wp2_with fail
    refine (head_any w).mono ?_
    rintro e w1 ⟨rfl, hb1⟩
    have HB1 := Lib.hid hb1; clear hb1
    go_wp2_with fail
    all_goals exact bodyPost_ret (v := .bool true) (by simp [results, Try.results7, go_sem]) rfl ⟨rfl, HB1.out⟩
  have hT := Lib.hid (append_tail j b ⟨by omega, by omega⟩)
  have hTl : Hid (offs (recs j) (recs j).length ≤ j.length) := offs_le j _ (Nat.le_refl _)
  have hlt : Hid ((j.take (offs (recs j) (recs j).length)).length = offs (recs j) (recs j).length) := by
    have := hTl.out
    show List.length _ = _
    rw [List.length_take]; omega
  obtain ⟨n, hn⟩ : ∃ n, n = offs (recs j) (recs j).length := ⟨_, rfl⟩
  rw [← hn] at hT hTl hlt
  have HN := Lib.hid hn; clear hn
  have hn1 : n ≤ j.length := hTl.out
  have g1 : ¬ (6000 : Int) < (j.length : Int) := by omega
  have g2 : ¬ (b.length : Int) < 1 := by omega
  have g3 : ¬ (300 : Int) < (b.length : Int) := by omega
  have g4 : ¬ (n : Int) < 0 := by omega
  have g5 : ¬ (j.length : Int) < (n : Int) := by omega
  go_enter Try.func7, Try.ntmps7
  go_wp2_with fail
  refine (head_any w).mono ?_
  rintro e w1 ⟨rfl, hb1⟩
  have HB1 := Lib.hid hb1; clear hb1
  have a1 := Lib.hid (HA.out.below HB1.out)
  have b1 := Lib.hid (HB.out.below HB1.out)
  go_wp2_with fail
  refine (records_all j A c _ a1.out.1 a1.out.2.1 a1.out.2.2.1 a1.out.2.2.2 (by omega)).mono ?_
  rintro e w2 ⟨rows, Al, cl, hrows, rfl, -, -, hb2⟩
  rw [← HN.out]
  have a2 := Lib.hid (a1.out.below hb2)
  have b2 := Lib.hid (b1.out.below hb2)
  have HB2 := Lib.hid (HB1.out.trans (hb2.mono HB1.out.size))
  clear hb2 hrows a1 b1 HB1
  go_wp2_with fail
  refine (append_any j b A B c d _ a2.out.1 a2.out.2.1 b2.out.1 b2.out.2.1 a2.out.2.2.1 a2.out.2.2.2 (by omega) (by unfold maxLen; omega)).mono ?_
  rintro e w3 ⟨Ax, cx, rfl, hown3, hb3⟩
  have x3 := Lib.hid (Bs.of_own hown3)
  have a3 := Lib.hid (a2.out.below hb3)
  have b3 := Lib.hid (b2.out.below hb3)
  have HB3 := Lib.hid (HB2.out.trans (hb3.mono HB2.out.size))
  clear hb3 hown3 a2 b2 HB2
  have hcj : (j.length : Int) ≤ (c : Int) := by have := a3.out.2.2.1; omega
  have hcm : c ≤ 9223372036854775807 := by have := a3.out.2.2.2; unfold maxLen at this; omega
  go_wp2_with fail
  have t3 := Lib.hid (a3.out.take n)
  have CA := append_any (j.take n) b A B c d w3 t3.out.1 t3.out.2.1 b3.out.1 b3.out.2.1 t3.out.2.2.1 t3.out.2.2.2 (by rw [hlt.out]; omega) (by unfold maxLen; omega)
  rw [hlt.out, hT.out] at CA
  refine CA.mono ?_
  clear CA
  rintro e w4 ⟨Ay, cy, rfl, hown4, hb4⟩
  have y4 := Lib.hid (Bs.of_own hown4)
  have x4 := Lib.hid (x3.out.below hb4)
  have HB4 := Lib.hid (HB3.out.trans (hb4.mono HB3.out.size))
  clear hb4 hown4 a3 b3 HB3 x3 t3
  obtain ⟨R, hR⟩ : ∃ R, R = appendR j b := ⟨_, rfl⟩
  rw [← hR] at x4 y4 ⊢
  clear hR hT
  go_wp2_with fail
  refine (bytes_any R.1 R.1 Ax Ay cx cy _ x4.out.1 y4.out.1 (by have := y4.out.2.2; omega)).mono ?_
  rintro e w5 ⟨rfl, n5, rfl⟩
  have HB5 := Lib.hid (below_drewN HB4.out n5)
  rw [decide_eq_true (rfl : R.1 = R.1)]
  clear HB4 x4 y4
  go_wp2_with fail
  exact bodyPost_ret (v := .bool true) (by simp [results, Try.results7, go_sem]) rfl ⟨rfl, HB5.out⟩
end Go.Proofs.Ytoaembpakmpolaa
