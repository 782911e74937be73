/-
  The walk over JournalAppends.
-/
import Derived.Test.YtoaembpakmpolaaJouHead2
import Derived.Test.YtoaembpakmpolaaJouThe
namespace Go.Proofs.Ytoaembpakmpolaa
open Go.RowKit Jou
attribute [local go_sem] ba_get ba_extract ba_append

theorem one_sl (l : List Sl) : ∀ u ∈ l.map slV, u.oneCell' = true := fun u hu => by
  obtain ⟨r, _, rfl⟩ := List.mem_map.1 hu
  rfl
/-- Rows that a call has made are read. -/
theorem rdl_of {w' : World} {base : Nat} {A : Option Addr} {c : Nat} {rows : List Sl} (h1 : w'.ownsRow base 38 1 (.slice A rows.length c) rows.length (rows.map slV)) (h2 : ∀ r ∈ rows, w'.ownsRow base 5 1 (slV r) r.2.2.length (r.2.2.map bV)) : RdL w' A (rows.map (·.2.2)) :=
  ⟨rows, rfl, own_rd h1, fun r hr => ⟨own_rd (h2 r hr), fun a ha => (own_at (h2 r hr) a ha).2, (Bs.of_own (h2 r hr)).2.2⟩⟩
set_option maxHeartbeats 8000000 in
set_option maxRecDepth 100000 in
theorem appends_walk (j b : List UInt8) (A B : Option Addr) (c d : Nat) (w : World) (hA : Bs w A c j) (hB : Bs w B d b) :
    Calls Try.prog 5 #[.slice A j.length c, .slice B b.length d] w fun e w' => e = .returned (.bool true) ∧ Below w.heap.size w w' := by
  have HA := Lib.hid hA; clear hA
  have HB := Lib.hid hB; clear hB
  have hjm : j.length ≤ 9223372036854775807 := by have := HA.out.2.2; unfold maxLen at this; omega
  have hbm : b.length ≤ 9223372036854775807 := by have := HB.out.2.2; unfold maxLen at this; omega
  by_cases h1 : 6000 < j.length
  · go_enter Try.func5, Try.ntmps5
    go_wp2_with fail
    refine (head_any w).mono ?_
    rintro e w1 ⟨rfl, hb1⟩
    have HB1 := Lib.hid hb1; clear hb1
    go_wp2_with fail
    all_goals exact bodyPost_ret (v := .bool true) (by simp [results, Try.results5, go_sem]) rfl ⟨rfl, HB1.out⟩
  by_cases h2 : b.length < 1
  · go_enter Try.func5, Try.ntmps5
    go_wp2_with fail
    refine (head_any w).mono ?_
    rintro e w1 ⟨rfl, hb1⟩
    have HB1 := Lib.hid hb1; clear hb1
    go_wp2_with fail
    all_goals exact bodyPost_ret (v := .bool true) (by simp [results, Try.results5, go_sem]) rfl ⟨rfl, HB1.out⟩
  by_cases h3 : 3000 < b.length
  · go_enter Try.func5, Try.ntmps5
    go_wp2_with fail
    refine (head_any w).mono ?_
    rintro e w1 ⟨rfl, hb1⟩
    have HB1 := Lib.hid hb1; clear hb1
    go_wp2_with fail
    all_goals exact bodyPost_ret (v := .bool true) (by simp [results, Try.results5, go_sem]) rfl ⟨rfl, HB1.out⟩
  have g1 : ¬ (6000 : Int) < (j.length : Int) := by omega
  have g2 : ¬ (b.length : Int) < 1 := by omega
  have g3 : ¬ (3000 : Int) < (b.length : Int) := by omega
  have hg : Hid (Jou.Good b) := ⟨by omega, by omega⟩
  by_cases hful : (recs j).length < 500
  case neg =>
    have hR := Lib.hid (append_full j b hg.out hful)
    have hl5 : Hid ((recs j).length = 500) := by have := recs_le j; show _ = _; omega
    go_enter Try.func5, Try.ntmps5
    go_wp2_with fail
    refine (head_any w).mono ?_
    rintro e w1 ⟨rfl, hb1⟩
    have HB1 := Lib.hid hb1; clear hb1
    have a1 := Lib.hid (HA.out.below HB1.out)
    have b1 := Lib.hid (HB.out.below HB1.out)
    go_wp2_with fail
    refine (records_all j A c _ a1.out.1 a1.out.2.1 a1.out.2.2.1 a1.out.2.2.2 (by omega)).mono ?_
    rintro e w2 ⟨rows, Al, cl, hrows, rfl, -, -, hb2⟩
    have hrl : rows.length = 500 := by rw [← hl5.out, ← hrows, List.length_map]
    rw [hrl]
    have a2 := Lib.hid (a1.out.below hb2)
    have b2 := Lib.hid (b1.out.below hb2)
    have HB2 := Lib.hid (HB1.out.trans (hb2.mono HB1.out.size))
    clear hb2 hrows a1 b1 HB1 hrl
    go_wp2_with fail
    have CA := append_any j b A B c d _ a2.out.1 a2.out.2.1 b2.out.1 b2.out.2.1 a2.out.2.2.1 a2.out.2.2.2 (by omega) (by unfold maxLen; omega)
    rw [hR.out] at CA
    refine CA.mono ?_
    clear CA
    rintro e w3 ⟨Ax, cx, rfl, -, hb3⟩
    have HB3 := Lib.hid (HB2.out.trans (hb3.mono HB2.out.size))
    clear hb3 a2 b2 HB2
    go_wp2_with fail
    exact bodyPost_ret (v := .bool true) (by simp [results, Try.results5, go_sem]) rfl ⟨rfl, HB3.out⟩
  have hR := Lib.hid (append_ok j b hg.out hful)
  have hR2 := Lib.hid (recs_append j b hg.out hful)
  have hR3 := Lib.hid (offs_all (recs j ++ [b]))
  have hfl : Hid ((frs (recs j ++ [b])).length ≤ 90000) := by
    have h := offs_le j (recs j).length (Nat.le_refl _)
    rw [offs_all] at h
    have hf : frs (recs j ++ [b]) = frs (recs j) ++ frame b := by rw [frs_append, frs_one]
    show List.length _ ≤ _
    rw [hf, List.length_append, frame_len]
    omega
  obtain ⟨K, hK0⟩ : ∃ K, K = frs (recs j ++ [b]) := ⟨_, rfl⟩
  rw [← hK0] at hR hR2 hR3 hfl
  clear hK0
  have HX := Lib.hid (And.intro hful (And.intro hR (And.intro hR2 (And.intro hR3 hfl))))
  clear g1 g2 g3 hful hR hR2 hR3 hfl hg
  have g1 : ¬ (6000 : Int) < (j.length : Int) := by omega
  have g2 : ¬ (b.length : Int) < 1 := by omega
  have g3 : ¬ (3000 : Int) < (b.length : Int) := by omega
  go_enter Try.func5, Try.ntmps5
  go_wp2_with fail
  refine (head_any w).mono ?_
  rintro e w1 ⟨rfl, hb1⟩
  have HB1 := Lib.hid hb1; clear hb1
  have a1 := Lib.hid (HA.out.below HB1.out)
  have b1 := Lib.hid (HB.out.below HB1.out)
  go_wp2_with fail
  all_goals try (exfalso; omega)
  obtain ⟨HFUL, hR, hR2, hR3, hfl⟩ := HX.out
  have HFUL := Lib.hid HFUL
  clear HX g1 g2 g3
  refine (records_all j A c _ a1.out.1 a1.out.2.1 a1.out.2.2.1 a1.out.2.2.2 (by omega)).mono ?_
  rintro e w2 ⟨rows, Al, cl, hrows, rfl, hown2, heach2, hb2⟩
  have hrl : rows.length < 500 := by have := congrArg List.length hrows; rw [List.length_map] at this; have := HFUL.out; omega
  have a2 := Lib.hid (a1.out.below hb2)
  have b2 := Lib.hid (b1.out.below hb2)
  have l2 := Lib.hid (rdl_of hown2 heach2)
  have o2 := Lib.hid (own_rd hown2)
  have HB2 := Lib.hid (HB1.out.trans (hb2.mono HB1.out.size))
  have HRW := Lib.hid hrows
  have e2 := Lib.hid (fun r hr => (⟨own_rd (heach2 r hr), fun a ha => (own_at (heach2 r hr) a ha).2, (Bs.of_own (heach2 r hr)).2.2⟩ : Rd w2 r.1 (r.2.2.map bV) ∧ Low w2.heap.size r.1 ∧ r.2.2.length ≤ r.2.1 ∧ r.2.1 ≤ maxLen))
  clear hb2 hrows a1 b1 HB1 hown2 heach2
  go_wp2_with fail
  have CA := append_any j b A B c d _ a2.out.1 a2.out.2.1 b2.out.1 b2.out.2.1 a2.out.2.2.1 a2.out.2.2.2 (by omega) (by unfold maxLen; omega)
  rw [hR.out] at CA
  refine CA.mono ?_
  clear CA
  rintro e w3 ⟨Ax, cx, rfl, hown3, hb3⟩
  have x3 := Lib.hid (Bs.of_own hown3)
  have b3 := Lib.hid (b2.out.below hb3)
  have o3 := Lib.hid (o2.out.below hb3)
  have e3 : Hid (∀ r ∈ rows, Rd w3 r.1 (r.2.2.map bV) ∧ Low w3.heap.size r.1 ∧ r.2.2.length ≤ r.2.1 ∧ r.2.1 ≤ maxLen) := fun r hr => ⟨(e2.out r hr).1.below hb3, (e2.out r hr).2.1.mono hb3.size, (e2.out r hr).2.2⟩
  have HB3 := Lib.hid (HB2.out.trans (hb3.mono HB2.out.size))
  clear hb3 a2 b2 HB2 hown3 o2 e2 l2
  go_wp2_with fail
  have CR := records_all K Ax cx w3 x3.out.1 x3.out.2.1 x3.out.2.2.1 x3.out.2.2.2 hfl.out
  unfold RecRes at CR
  rw [hR2.out, hR3.out] at CR
  refine CR.mono ?_
  clear CR
  rintro e w4 ⟨rows2, Am, cm, hrows2, rfl, hown4, heach4, hb4⟩
  have m4 := Lib.hid (rdl_of hown4 heach4)
  have b4 := Lib.hid (b3.out.below hb4)
  have o4 := Lib.hid (o3.out.below hb4)
  have e4 : Hid (∀ r ∈ rows, Rd w4 r.1 (r.2.2.map bV) ∧ Low w4.heap.size r.1 ∧ r.2.2.length ≤ r.2.1 ∧ r.2.1 ≤ maxLen) := fun r hr => ⟨(e3.out r hr).1.below hb4, (e3.out r hr).2.1.mono hb4.size, (e3.out r hr).2.2⟩
  have HB4 := Lib.hid (HB3.out.trans (hb4.mono HB3.out.size))
  have hrl2 : rows2.length = rows.length + 1 := by
    have h1 := congrArg List.length hrows2
    have h2 := congrArg List.length HRW.out
    rw [List.length_map] at h1 h2
    rw [h1, h2, List.length_append]
    rfl
  rw [hrows2] at m4
  rw [hrl2]
  have hcat : Hid (recs j ++ [b] = (rows ++ [(B, d, b)]).map (·.2.2)) := by
    show _ = _
    rw [List.map_append, HRW.out]
    rfl
  rw [hcat.out] at m4
  clear hb4 b3 HB3 hown4 heach4 o3 e3 x3 hrows2
  obtain ⟨i0, hi0, hz0, hz1, hz2⟩ := info_parts slInfo
  have HI := Lib.hid (And.intro hi0 (And.intro hz0 (And.intro hz1 hz2)))
  clear hi0 hz0 hz1 hz2
  have o5 : Hid ((w4.alloc (.cells #[] 38)).ownsRow w4.heap.size 38 1 (.slice (some ⟨w4.heap.size, 0, none⟩) 0 0) 0 []) := ⟨rfl, .inr ⟨w4.heap.size, 0, #[], rfl, Nat.le_refl _, heap_alloc_new _ _, Nat.le_refl _, Nat.zero_le _, rfl, rfl⟩⟩
  have s5 : Hid (Rd (w4.alloc (.cells #[] 38)) Al (rows.map slV)) := o4.out.below (ba _ _)
  go_wp2_with (first
    | (at_builtin; refine wpList_step (fun KK hKK => ?_); rw [if_pos (by rfl)]; refine wp_app (.tmp 64) (.tmp 65) _ _ (by rfl) w4.heap.size 38 i0 _ 1 24 Try.underlying46 HI.out.1 HI.out.2.1 HI.out.2.2.1 HI.out.2.2.2 (by rfl) _ 0 _ (by rfl) o5.out _ (by rfl) rows.length _ (src_rd Try.underlying46 s5.out (by simp) (one_sl _)) (by unfold maxLen; omega) (by omega) (by simp) (fun A5 c5 w5 hown5 hgrow5 _ => hKK _ _ ?_); clear hKK KK; simp only [Nat.zero_add, List.nil_append] at hown5; have HO5 := Lib.hid hown5; have HB5 : Hid (Below w4.heap.size w4 w5) := (ba w4 _).trans (g_below o5.out hgrow5 (Nat.le_refl _) (by simp)); clear hown5 hgrow5)
    | (at_builtin; refine wpList_step (fun KK hKK => ?_); rw [if_pos (by rfl)]; refine wp_app (.tmp 66) (.tmp 68) _ _ (by rfl) w4.heap.size 38 i0 _ 1 24 Try.underlying46 HI.out.1 HI.out.2.1 HI.out.2.2.1 HI.out.2.2.2 (by rfl) _ rows.length _ (by rfl) (HO5.out.alloc _) _ (by rfl) 1 ([(B, d, b)].map slV) (src_rd Try.underlying46 (Rd.new w5 _ _) (by rfl) (one_sl _)) (by unfold maxLen; omega) (by omega) (by have := HB5.out.size; simp; omega) (fun A6 c6 w6 hown6 hgrow6 _ => hKK _ _ ?_); clear hKK KK; have HO6 := Lib.hid hown6; have HB6 : Hid (Below w4.heap.size w4 w6) := (HB5.out.alloc HB5.out.size _).trans (g_below (HO5.out.alloc _) hgrow6 (Nat.le_refl _) (by have := HB5.out.size; simp; omega)); clear hown6 hgrow6))
  have lr : RdL w6 A6 ((rows ++ [(B, d, b)]).map (·.2.2)) := by
    refine ⟨rows ++ [(B, d, b)], rfl, ?_, fun r hr => ?_⟩
    · have := own_rd HO6.out
      simpa using this
    · rcases List.mem_append.1 hr with hr | hr
      · exact ⟨(e4.out r hr).1.below HB6.out, (e4.out r hr).2.1.mono HB6.out.size, (e4.out r hr).2.2⟩
      · obtain rfl := List.mem_singleton.1 hr
        have := b4.out.below HB6.out
        exact this
  have ml := m4.out.below HB6.out
  have CL := lists_same _ Am A6 cm c6 w6 ml lr (by simp; unfold maxLen; omega)
  have hll : ((rows ++ [(B, d, b)]).map (·.2.2)).length = rows.length + 1 := by simp
  rw [hll] at CL
  refine CL.mono ?_
  clear CL ml lr hll
  rintro e w7 ⟨rfl, n7, rfl⟩
  have HB7 := Lib.hid (below_drewN (bt HB4.out HB6.out) n7)
  go_wp2_with fail
  exact bodyPost_ret (v := .bool true) (by simp [results, Try.results5, go_sem]) rfl ⟨rfl, HB7.out⟩
end Go.Proofs.Ytoaembpakmpolaa
