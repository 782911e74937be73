/-
  The walk over JournalTears.
-/
import Derived.Test.YtoaembpakmpolaaJouTorn
import Derived.Test.YtoaembpakmpolaaLawAppends
namespace Go.Proofs.Ytoaembpakmpolaa
open Go.RowKit Jou
attribute [local go_sem] ba_get ba_extract ba_append
set_option maxHeartbeats 8000000 in
set_option maxRecDepth 100000 in
theorem tears_walk (rows : List Sl) (A : Option Addr) (c : Nat) (raw : Int) (w : World) (hA : Rows0 w A c rows) (hr0 : 0 ≤ raw) (hr1 : raw < 65536) :
    Calls Try.prog 6 #[.slice A rows.length c, .int .u16 raw] w fun e w' => e = .returned (.bool true) ∧ Below w.heap.size w w' := by
  have HA := Lib.hid hA; clear hA
  obtain ⟨r, rfl⟩ : ∃ r : Nat, raw = (r : Int) := ⟨raw.toNat, by omega⟩
  by_cases hf : fewB rows = true
  case neg =>
    have hf' : Hid (fewB rows = false) := by show fewB rows = false; simpa using hf
    clear hf
    go_enter Try.func6, Try.ntmps6
    go_wp2_with fail
    refine (head_any w).mono ?_
    rintro e w1 ⟨rfl, hb1⟩
    have HB1 := Lib.hid hb1; clear hb1
    have a1 := Lib.hid (HA.out.below HB1.out)
    go_wp2_with fail
    refine (few_any rows A c w1 a1.out).mono ?_
    rintro e w2 ⟨rfl, n2, rfl⟩
    rw [hf'.out]
    go_wp2_with fail
    exact bodyPost_ret (v := .bool true) (by simp [results, Try.results6, go_sem]) rfl ⟨rfl, below_drewN HB1.out n2⟩
  have hf' := Lib.hid hf
  have HF := Lib.hid (fit_of HA.out hf)
  clear hf
  obtain ⟨ls, hls⟩ : ∃ ls, rows.map (·.2.2) = ls := ⟨_, rfl⟩
  have hll : Hid (ls.length = rows.length) := by show _ = _; rw [← hls, List.length_map]
  have HG : Hid ((∀ b ∈ ls, Jou.Good b) ∧ (∀ b ∈ ls, b.length ≤ 300)) := by rw [← hls]; exact HF.out.good
  have HR : Hid (∀ W, Fit W A c rows → ∀ k, RdL W A (ls.take k)) := by
    intro W h k
    rw [← hls, ← List.map_take]
    exact (h.take k).rdl
  have HLS := Lib.hid hls; clear hls
  have hl : rows.length ≤ 24 := HF.out.2.2
  have hz : (frs ls).length ≤ 7392 := by
    have h5 := frs_size ls HG.out.2
    have := hll.out
    omega
  obtain ⟨n, hn⟩ : ∃ n, n = r % ((frs ls).length + 1) := ⟨_, rfl⟩
  have hnl : n ≤ (frs ls).length := by rw [hn]; exact Nat.lt_succ_iff.1 (Nat.mod_lt r (Nat.succ_pos _))
  have hmod : Int.tmod (r : Int) ((frs ls).length + 1 : Int) = (n : Int) := by
    rw [hn]
    exact (Int.ofNat_tmod r ((frs ls).length + 1)).symm
  clear hn
  have HT := Lib.hid (torn ls HG.out.1 (by rw [hll.out]; omega) n)
  have HO := Lib.hid (offs_take ls (whole ls n))
  have HW := Lib.hid (whole_stop ls n)
  have HWL := Lib.hid (whole_le ls n)
  have hlt : Hid (((frs ls).take n).length = n) := by show _ = _; rw [List.length_take]; omega
  go_enter Try.func6, Try.ntmps6
  go_wp2_with fail
  refine (head_any w).mono ?_
  rintro e w1 ⟨rfl, hb1⟩
  have HB1 := Lib.hid hb1; clear hb1
  have a1 := Lib.hid (HA.out.below HB1.out)
  have f1 := Lib.hid (HF.out.below HB1.out)
  go_wp2_with fail
  refine (few_any rows A c w1 a1.out).mono ?_
  rintro e w2 ⟨rfl, n2, rfl⟩
  rw [hf'.out]
  have f2 := Lib.hid (f1.out.below (below_drewN (Below.refl _ _) n2))
  clear a1 f1
  go_wp2_with fail
  have CW := Lib.hid (written_any rows A c _ f2.out)
  rw [HLS.out] at CW
  refine CW.out.mono ?_
  clear CW
  rintro e w3 ⟨Aj, cj, rfl, hj3, hb3⟩
  have j3 := Lib.hid hj3
  have f3 := Lib.hid (f2.out.below hb3)
  have HB3 : Hid (Below w.heap.size w w3) := HB1.out.trans ((bdrN hb3).mono HB1.out.size)
  clear hj3 hb3 f2 HB1
  have hcj : n ≤ cj := by have := j3.out.2.2.1; omega
  have hcm : cj ≤ 9223372036854775807 := by have := j3.out.2.2.2; unfold maxLen at this; omega
  go_wp2_with fail
  have CR := records_all ((frs ls).take n) Aj cj w3 (j3.out.take n).1 (j3.out.take n).2.1 (j3.out.take n).2.2.1 (j3.out.take n).2.2.2 (by rw [hlt.out]; omega)
  unfold RecRes at CR
  rw [HT.out, HO.out, hlt.out] at CR
  refine CR.mono ?_
  clear CR
  rintro e w4 ⟨rows2, Am, cm, hrows2, rfl, hown4, heach4, hb4⟩
  have m4 := Lib.hid (rdl_of hown4 heach4)
  rw [hrows2] at m4
  have hlk : Hid ((ls.take (whole ls n)).length = whole ls n) := by show _ = _; rw [List.length_take]; have := HWL.out; omega
  have hrl2 : rows2.length = whole ls n := by have := congrArg List.length hrows2; rw [List.length_map, hlk.out] at this; exact this
  have f4 := Lib.hid (f3.out.below hb4)
  have HB4 : Hid (Below w.heap.size w w4) := HB3.out.trans (hb4.mono HB3.out.size)
  rw [hrl2]
  clear hrl2 hrows2 hown4 heach4 hb4 f3 HB3 j3 HT HO
  obtain ⟨K, hK⟩ : ∃ K, K = whole ls n := ⟨_, rfl⟩
  rw [← hK] at HW HWL hlk m4 ⊢
  clear hK
  have hK1 : K ≤ rows.length := by have := HWL.out; have := hll.out; omega
  have hcj2 : rows.length ≤ c := f4.out.1.2.2.1
  have hcm2 : c ≤ 9223372036854775807 := by have := f4.out.1.2.2.2.1; unfold maxLen at this; omega
  have hOO : Hid (∀ k, offs ls k ≤ 7392) := fun k => Nat.le_trans (offs_le_len ls k) hz
  clear hcj hcm hmod hr0 hr1
  go_wp2_with fail
  go_loopw [11, 12] (fun i s wr => ∃ k : Nat, k ≤ rows.length ∧ i = iV k ∧ s = iV (offs ls k) ∧ offs ls k ≤ n ∧ Hid (∃ m, wr = w4.drewN m)) (fun i _ _ => rows.length - (intOf i).toNat)
  case atStart => exact ⟨0, Nat.zero_le _, rfl, by rw [offs_zero]; rfl, by rw [offs_zero]; exact Nat.zero_le _, 0, rfl⟩
  case round =>
    obtain ⟨k, hk, rfl, rfl, hok, HN⟩ := hrel
    have ho2 : offs ls k ≤ 7392 := hOO.out k
    by_cases hlt2 : k < rows.length
    · have hlt3 : k < ls.length := by rw [hll.out]; exact hlt2
      obtain ⟨b1, o1, rfl, hb1, hc1⟩ := f4.out.1.1.get (i := k) (by simpa using hlt2)
      have hxl : Hid (rows[k].2.2.length = ls[k].length) := by
        have h8 : ls[k]? = some rows[k].2.2 := by rw [← HLS.out, List.getElem?_map, List.getElem?_eq_getElem hlt2]; rfl
        rw [List.getElem?_eq_getElem hlt3] at h8
        show _ = _
        rw [Option.some.inj h8]
      have k0 : w4.cell? ⟨b1, o1 + k, none⟩ = some (.slice rows[k].1 rows[k].2.2.length rows[k].2.1) := hc1 k _ (by rw [List.getElem?_map, List.getElem?_eq_getElem hlt2]; rfl)
      rw [hxl.out] at k0
      have k1 : wr.cell? ⟨b1, o1 + k, none⟩ = some (.slice rows[k].1 ls[k].length rows[k].2.1) := by obtain ⟨m, rfl⟩ := HN.out; exact k0
      have hx3 : ls[k].length ≤ 300 := HG.out.2 _ (List.getElem_mem _)
      have hsc : Hid (offs ls (k + 1) = offs ls k + (8 + ls[k].length)) := offs_succ ls k hlt3
      have HW2 : Hid (¬ offs ls k + ls[k].length + 8 ≤ n → K = k) := fun h => HW.out k (by omega) hok (fun _ => by omega)
      clear k0 hc1
      have i1 : (0 : Int) ≤ (k : Int) := by omega
      have i2 : (k : Int) < (rows.length : Int) := by omega
      obtain ⟨x, hx⟩ : ∃ x, ls[k].length = x := ⟨_, rfl⟩
      rw [hx] at k1 hx3 hsc HW2
      clear hx hxl
      obtain ⟨o, ho⟩ : ∃ o, offs ls k = o := ⟨_, rfl⟩
      rw [ho] at hok ho2 hsc HW2 ⊢
      have HO2 := Lib.hid ho
      clear ho
      by_cases hin : o + x + 8 ≤ n
      · have hin' : (o : Int) + (x : Int) + 8 ≤ (n : Int) := by omega
        go_wp2
        all_goals try (exfalso; omega)
        go_roundw
        case rel => exact ⟨k + 1, by omega, by go_num, by rw [hsc.out]; go_num, by rw [hsc.out]; omega, HN⟩
        case measure => simp [intOf]; omega
      · have hin' : ¬ (o : Int) + (x : Int) + 8 ≤ (n : Int) := by omega
        have hKk := HW2.out hin
        subst hKk
        rw [HO2.out]
        go_wp2_with fail
        all_goals try (exfalso; omega)
        obtain ⟨m, rfl⟩ := HN.out
        have hbm := below_drewN (Below.refl w4.heap.size w4) m
        have CL := lists_same (ls.take K) Am _ cm c (w4.drewN m) (m4.out.below hbm) (HR.out _ (f4.out.below hbm) K) (by rw [hlk.out]; unfold maxLen; omega)
        rw [hlk.out] at CL
        refine CL.mono ?_
        clear CL hbm
        rintro e w7 ⟨rfl, n7, rfl⟩
        have HB7 := Lib.hid (below_drewN HB4.out (m + n7))
        go_wp2_with fail
        exact bodyPost_ret (v := .bool true) (by simp [results, Try.results6, go_sem]) rfl ⟨rfl, HB7.out⟩
    · obtain rfl : k = rows.length := by omega
      have hKk : K = rows.length := HW.out rows.length (by have := hll.out; omega) hok (fun h => by have := hll.out; omega)
      subst hKk
      go_wp2_with fail
      all_goals try (exfalso; omega)
      obtain ⟨m, rfl⟩ := HN.out
      have hbm := below_drewN (Below.refl w4.heap.size w4) m
      have CL := lists_same (ls.take rows.length) Am _ cm c (w4.drewN m) (m4.out.below hbm) (HR.out _ (f4.out.below hbm) rows.length) (by rw [hlk.out]; unfold maxLen; omega)
      rw [hlk.out] at CL
      refine CL.mono ?_
      clear CL hbm
      rintro e w7 ⟨rfl, n7, rfl⟩
      have HB7 := Lib.hid (below_drewN HB4.out (m + n7))
      go_wp2_with fail
      exact bodyPost_ret (v := .bool true) (by simp [results, Try.results6, go_sem]) rfl ⟨rfl, HB7.out⟩
end Go.Proofs.Ytoaembpakmpolaa
