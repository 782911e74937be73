/-
  The walk over JournalDamage.
-/
import Derived.Test.YtoaembpakmpolaaJouTorn
import Derived.Test.YtoaembpakmpolaaLawAppends
import Derived.Laws.OwnMore
namespace Go.Proofs.Ytoaembpakmpolaa
open Go.RowKit Jou
attribute [local go_sem] ba_get ba_extract ba_append
set_option maxHeartbeats 8000000 in
set_option maxRecDepth 100000 in
theorem damage_walk (rows : List Sl) (A : Option Addr) (c : Nat) (raw value : Int) (w : World) (hA : Rows0 w A c rows) (hr0 : 0 ≤ raw) (hr1 : raw < 65536) (hv0 : 0 ≤ value) (hv1 : value < 256) :
    Calls Try.prog 8 #[.slice A rows.length c, .int .u16 raw, .int .u8 value] w fun e w' => e = .returned (.bool true) ∧ Below w.heap.size w w' := by
  have HA := Lib.hid hA; clear hA
  obtain ⟨r, rfl⟩ : ∃ r : Nat, raw = (r : Int) := ⟨raw.toNat, by omega⟩
  obtain ⟨v, rfl⟩ : ∃ v : UInt8, value = (v.toNat : Int) := ⟨UInt8.ofNat value.toNat, by rw [UInt8.toNat_ofNat']; omega⟩
  clear hv0 hv1
  by_cases hf : fewB rows = true
  case neg =>
    have hf' : Hid (fewB rows = false) := by show fewB rows = false; simpa using hf
    clear hf
    go_enter Try.func8, Try.ntmps8
    go_wp2_with fail
    refine (head_any w).mono ?_
    rintro e w1 ⟨rfl, hb1⟩
    have HB1 := Lib.hid hb1; clear hb1
    have a1 := Lib.hid (HA.out.below HB1.out)
    go_wp2_with fail
    refine (few_any rows A c w1 a1.out).mono ?_
    rintro e w2 ⟨rfl, n2, rfl⟩
    rw [hf'.out]
    go_wp2_with fail
    exact bodyPost_ret (v := .bool true) (by simp [results, Try.results8, go_sem]) rfl ⟨rfl, below_drewN HB1.out n2⟩
  by_cases hem : rows.length = 0
  · have hf' := Lib.hid hf
    have hem' := Lib.hid hem
    clear hf hem
    go_enter Try.func8, Try.ntmps8
    go_wp2_with fail
    refine (head_any w).mono ?_
    rintro e w1 ⟨rfl, hb1⟩
    have HB1 := Lib.hid hb1; clear hb1
    have a1 := Lib.hid (HA.out.below HB1.out)
    go_wp2_with fail
    refine (few_any rows A c w1 a1.out).mono ?_
    rintro e w2 ⟨rfl, n2, rfl⟩
    rw [hf'.out, hem'.out]
    go_wp2_with fail
    exact bodyPost_ret (v := .bool true) (by simp [results, Try.results8, go_sem]) rfl ⟨rfl, below_drewN HB1.out n2⟩
  have hf' := Lib.hid hf
  have HF := Lib.hid (fit_of HA.out hf)
  clear hf
  obtain ⟨ls, hls⟩ : ∃ ls, rows.map (·.2.2) = ls := ⟨_, rfl⟩
  have hll : Hid (ls.length = rows.length) := by show _ = _; rw [← hls, List.length_map]
  have HG : Hid ((∀ b ∈ ls, Jou.Good b) ∧ (∀ b ∈ ls, b.length ≤ 300)) := by rw [← hls]; exact HF.out.good
  have HR : Hid (∀ W, Fit W A c rows → ∀ k, RdL W A (ls.take k)) := by
    intro W h k
    rw [← hls, ← List.map_take]
    exact (h.take k).rdl
  have HLS := Lib.hid hls; clear hls
  have hl : rows.length ≤ 24 := HF.out.2.2
  have hz : (frs ls).length ≤ 7392 := by
    have h5 := frs_size ls HG.out.2
    have := hll.out
    omega
  have hz1 : 0 < (frs ls).length := by
    obtain ⟨k, hk⟩ : ∃ k, rows.length = k + 1 := ⟨rows.length - 1, by omega⟩
    have h9 := offs_le_len ls (0 + 1)
    have h8 : 0 < ls.length := by have := hll.out; omega
    rw [offs_succ ls 0 h8] at h9
    omega
  obtain ⟨n, hn⟩ : ∃ n, n = r % (frs ls).length := ⟨_, rfl⟩
  have hnl : n < (frs ls).length := by rw [hn]; exact Nat.mod_lt r hz1
  have hmod : Int.tmod (r : Int) ((frs ls).length : Int) = (n : Int) := by
    rw [hn]
    exact (Int.ofNat_tmod r (frs ls).length).symm
  clear hn
  obtain ⟨y, hy⟩ : ∃ y, (frs ls)[n] = y := ⟨_, rfl⟩
  have HY := Lib.hid hy
  have HT : Hid (v ≠ y → recs ((frs ls).set n v) = ls.take (whole ls n)) := fun h => damaged ls HG.out.1 (by rw [hll.out]; omega) n hnl v (by rw [hy]; exact h)
  clear hy
  have HO := Lib.hid (offs_take ls (whole ls n))
  have HW := Lib.hid (whole_stop ls n)
  have HWL := Lib.hid (whole_le ls n)
  have hlt : Hid (((frs ls).set n v).length = (frs ls).length) := by show _ = _; rw [List.length_set]
  have hem' : ((rows.length : Int) == 0) = false := by rw [beq_eq_false_iff_ne]; omega
  have hz1' : (((frs ls).length : Int) == 0) = false := by rw [beq_eq_false_iff_ne]; omega
  go_enter Try.func8, Try.ntmps8
  go_wp2_with fail
  refine (head_any w).mono ?_
  rintro e w1 ⟨rfl, hb1⟩
  have HB1 := Lib.hid hb1; clear hb1
  have a1 := Lib.hid (HA.out.below HB1.out)
  have f1 := Lib.hid (HF.out.below HB1.out)
  go_wp2_with fail
  refine (few_any rows A c w1 a1.out).mono ?_
  rintro e w2 ⟨rfl, n2, rfl⟩
  rw [hf'.out]
  have f2 := Lib.hid (f1.out.below (below_drewN (Below.refl _ _) n2))
  clear a1 f1
  go_wp2_with fail
  have CW := Lib.hid (written_any rows A c _ f2.out)
  rw [HLS.out] at CW
  refine CW.out.mono ?_
  clear CW
  rintro e w3 ⟨Aj, cj, rfl, hj3, hb3⟩
  have j3 := Lib.hid hj3
  have f3 := Lib.hid (f2.out.below hb3)
  have HB3 : Hid (Below w.heap.size w w3) := HB1.out.trans ((bdrN hb3).mono HB1.out.size)
  clear hj3 hb3 f2 HB1
  obtain ⟨bj, oj, rfl, hbj, hcj⟩ := j3.out.1.get (i := n) (by simpa using hnl)
  have kj : w3.cell? ⟨bj, oj + n, none⟩ = some (.int .u8 (y.toNat : Int)) := hcj n _ (by rw [List.getElem?_map, List.getElem?_eq_getElem hnl, HY.out]; rfl)
  clear hcj
  have in1 : (0 : Int) ≤ (n : Int) := by omega
  have in2 : (n : Int) < ((frs ls).length : Int) := by omega
  by_cases hyv : (y.toNat : Int) = (v.toNat : Int)
  · go_wp2_with fail
    all_goals try (exfalso; omega)
    exact bodyPost_ret (v := .bool true) (by simp [results, Try.results8, go_sem]) rfl ⟨rfl, HB3.out⟩
  have hne : Hid (v ≠ y) := fun h => hyv (by rw [h])
  have hyv' : ((y.toNat : Int) == (v.toNat : Int)) = false := by rw [beq_eq_false_iff_ne]; exact hyv
  clear hyv
  obtain ⟨i0, hi0, hz0, hz1, hz2⟩ := info_parts byteInf
  have HI := Lib.hid (And.intro hi0 (And.intro hz0 (And.intro hz1 hz2)))
  clear hi0 hz0 hz1 hz2
  have o3 : Hid ((w3.alloc (.cells #[] 5)).ownsRow w3.heap.size 5 1 (.slice (some ⟨w3.heap.size, 0, none⟩) 0 0) 0 []) := ⟨rfl, .inr ⟨w3.heap.size, 0, #[], rfl, Nat.le_refl _, heap_alloc_new _ _, Nat.le_refl _, Nat.zero_le _, rfl, rfl⟩⟩
  have s3 : Hid (Rd (w3.alloc (.cells #[] 5)) (some ⟨bj, oj, none⟩) ((frs ls).map bV)) := j3.out.1.below (ba _ _)
  go_wp2_with (first
    | (at_builtin; refine wpList_app (by rfl) (.tmp 49) (.tmp 50) _ _ (by rfl) w3.heap.size 5 i0 _ 1 1 Try.underlying38 HI.out.1 HI.out.2.1 HI.out.2.2.1 HI.out.2.2.2 (by rfl) _ 0 _ (by rfl) o3.out _ (by rfl) (frs ls).length _ (src_rd Try.underlying38 s3.out (by simp) (one_b _)) (by unfold maxLen; omega) (by omega) (by simp) ?_; intro A5 c5 w5 hown5 hgrow5 _; simp only [Nat.zero_add, List.nil_append] at hown5; have HO5 := Lib.hid hown5; have HB5 : Hid (Below w3.heap.size w3 w5) := (ba w3 _).trans (g_below o3.out hgrow5 (Nat.le_refl _) (by simp)); clear hown5 hgrow5; refine Stop.out ?_))
  refine ⟨?_⟩
  obtain ⟨g, hg5⟩ : ∃ g, A5 = some ⟨g, 0, none⟩ := by
    rcases HO5.out.2 with ⟨_, h0⟩ | ⟨g, cap, cur, h', _⟩
    · exact absurd h0 (by omega)
    · simp only [Value.slice.injEq] at h'
      exact ⟨g, h'.1⟩
  subst hg5
  have hg6 : g < w5.heap.size := (own_at HO5.out _ rfl).2
  have kg : w5.cell? ⟨g, n, none⟩ = some (.int .u8 (y.toNat : Int)) := by
    rcases own_rd HO5.out with h0 | ⟨b, off, he, _, hc⟩
    · exact absurd (congrArg List.length h0) (by simp; intro h; rw [h] at hnl; simp at hnl)
    · simp only [Option.some.injEq, Addr.mk.injEq] at he
      obtain ⟨rfl, rfl, _⟩ := he
      have := hc n (bV y) (by rw [List.getElem?_map, List.getElem?_eq_getElem hnl, HY.out]; rfl)
      rwa [Nat.zero_add] at this
  have kf : w5.frozen? ⟨g, n, none⟩ = false := World.ownsRow.frozenAt HO5.out n
  obtain ⟨hst1, hst2⟩ := World.ownsRow.stored HO5.out n (.int .u8 (v.toNat : Int))
  have hB6 : Below w3.heap.size w3 (w5.setCell ⟨g, n, none⟩ (.int .u8 (v.toNat : Int))) := HB5.out.trans (g_below HO5.out hst2 (Nat.le_refl _) HB5.out.size)
  have f6 := Lib.hid (f3.out.below hB6)
  have HB6 : Hid (Below w.heap.size w (w5.setCell ⟨g, n, none⟩ (.int .u8 (v.toNat : Int)))) := HB3.out.trans (hB6.mono HB3.out.size)
  have hset : ((frs ls).map bV).set n (.int .u8 (v.toNat : Int)) = ((frs ls).set n v).map bV := by rw [List.map_set]; first | done | rfl
  rw [hset] at hst1
  have j6 : Hid (Bs (w5.setCell ⟨g, n, none⟩ (.int .u8 (v.toNat : Int))) (some ⟨g, 0, none⟩) c5 ((frs ls).set n v)) := by
    rw [← hlt.out] at hst1
    exact Bs.of_own hst1
  clear hst1 hst2 hB6 hset HO5 HB5 o3 s3 f3 HB3 j3 HI i0 kj hbj
  go_wp2_with fail
  all_goals try (exfalso; omega)
  have CR := records_all ((frs ls).set n v) (some ⟨g, 0, none⟩) c5 _ j6.out.1 j6.out.2.1 j6.out.2.2.1 j6.out.2.2.2 (by rw [hlt.out]; omega)
  unfold RecRes at CR
  rw [HT.out hne.out, HO.out, hlt.out] at CR
  refine CR.mono ?_
  clear CR kg kf
  rintro e w4 ⟨rows2, Am, cm, hrows2, rfl, hown4, heach4, hb4⟩
  have m4 := Lib.hid (rdl_of hown4 heach4)
  rw [hrows2] at m4
  have hlk : Hid ((ls.take (whole ls n)).length = whole ls n) := by show _ = _; rw [List.length_take]; have := HWL.out; omega
  have hrl2 : rows2.length = whole ls n := by have := congrArg List.length hrows2; rw [List.length_map, hlk.out] at this; exact this
  have f4 := Lib.hid (f6.out.below hb4)
  have HB4 : Hid (Below w.heap.size w w4) := HB6.out.trans (hb4.mono HB6.out.size)
  rw [hrl2]
  clear hrl2 hrows2 hown4 heach4 hb4 f6 HB6 j6 HT HO
  obtain ⟨K, hK⟩ : ∃ K, K = whole ls n := ⟨_, rfl⟩
  rw [← hK] at HW HWL hlk m4 ⊢
  clear hK
  have hK1 : K ≤ rows.length := by have := HWL.out; have := hll.out; omega
  have hcj2 : rows.length ≤ c := f4.out.1.2.2.1
  have hcm2 : c ≤ 9223372036854775807 := by have := f4.out.1.2.2.2.1; unfold maxLen at this; omega
  have hOO : Hid (∀ k, offs ls k ≤ 7392) := fun k => Nat.le_trans (offs_le_len ls k) hz
  clear hmod hr0 hr1
  go_wp2_with fail
  go_loopw [13, 14] (fun i s wr => ∃ k : Nat, k ≤ rows.length ∧ i = iV k ∧ s = iV (offs ls k) ∧ offs ls k ≤ n ∧ Hid (∃ m, wr = w4.drewN m)) (fun i _ _ => rows.length - (intOf i).toNat)
  case atStart => exact ⟨0, Nat.zero_le _, rfl, by rw [offs_zero]; rfl, by rw [offs_zero]; exact Nat.zero_le _, 0, rfl⟩
  case round =>
    obtain ⟨k, hk, rfl, rfl, hok, HN⟩ := hrel
    have ho2 : offs ls k ≤ 7392 := hOO.out k
    by_cases hlt2 : k < rows.length
    · have hlt3 : k < ls.length := by rw [hll.out]; exact hlt2
      obtain ⟨b1, o1, rfl, hb1, hc1⟩ := f4.out.1.1.get (i := k) (by simpa using hlt2)
      have hxl : Hid (rows[k].2.2.length = ls[k].length) := by
        have h8 : ls[k]? = some rows[k].2.2 := by rw [← HLS.out, List.getElem?_map, List.getElem?_eq_getElem hlt2]; rfl
        rw [List.getElem?_eq_getElem hlt3] at h8
        show _ = _
        rw [Option.some.inj h8]
      have k0 : w4.cell? ⟨b1, o1 + k, none⟩ = some (.slice rows[k].1 rows[k].2.2.length rows[k].2.1) := hc1 k _ (by rw [List.getElem?_map, List.getElem?_eq_getElem hlt2]; rfl)
      rw [hxl.out] at k0
      have k1 : wr.cell? ⟨b1, o1 + k, none⟩ = some (.slice rows[k].1 ls[k].length rows[k].2.1) := by obtain ⟨m, rfl⟩ := HN.out; exact k0
      have hx3 : ls[k].length ≤ 300 := HG.out.2 _ (List.getElem_mem _)
      have hsc : Hid (offs ls (k + 1) = offs ls k + (8 + ls[k].length)) := offs_succ ls k hlt3
      have HW2 : Hid (¬ offs ls k + ls[k].length + 8 ≤ n → K = k) := fun h => HW.out k (by omega) hok (fun _ => by omega)
      clear k0 hc1
      have i1 : (0 : Int) ≤ (k : Int) := by omega
      have i2 : (k : Int) < (rows.length : Int) := by omega
      obtain ⟨x, hx⟩ : ∃ x, ls[k].length = x := ⟨_, rfl⟩
      rw [hx] at k1 hx3 hsc HW2
      clear hx hxl
      obtain ⟨o, ho⟩ : ∃ o, offs ls k = o := ⟨_, rfl⟩
      rw [ho] at hok ho2 hsc HW2 ⊢
      have HO2 := Lib.hid ho
      clear ho
      by_cases hin : o + x + 8 ≤ n
      · have hin' : (o : Int) + (x : Int) + 8 ≤ (n : Int) := by omega
        go_wp2
        all_goals try (exfalso; omega)
        go_roundw
        case rel => exact ⟨k + 1, by omega, by go_num, by rw [hsc.out]; go_num, by rw [hsc.out]; omega, HN⟩
        case measure => simp [intOf]; omega
      · have hin' : ¬ (o : Int) + (x : Int) + 8 ≤ (n : Int) := by omega
        have hKk := HW2.out hin
        subst hKk
        rw [HO2.out]
        go_wp2_with fail
        all_goals try (exfalso; omega)
        obtain ⟨m, rfl⟩ := HN.out
        have hbm := below_drewN (Below.refl w4.heap.size w4) m
        have CL := lists_same (ls.take K) Am _ cm c (w4.drewN m) (m4.out.below hbm) (HR.out _ (f4.out.below hbm) K) (by rw [hlk.out]; unfold maxLen; omega)
        rw [hlk.out] at CL
        refine CL.mono ?_
        clear CL hbm
        rintro e w7 ⟨rfl, n7, rfl⟩
        have HB7 := Lib.hid (below_drewN HB4.out (m + n7))
        go_wp2_with fail
        exact bodyPost_ret (v := .bool true) (by simp [results, Try.results8, go_sem]) rfl ⟨rfl, HB7.out⟩
    · obtain rfl : k = rows.length := by omega
      have hKk : K = rows.length := HW.out rows.length (by have := hll.out; omega) hok (fun h => by have := hll.out; omega)
      subst hKk
      go_wp2_with fail
      all_goals try (exfalso; omega)
      obtain ⟨m, rfl⟩ := HN.out
      have hbm := below_drewN (Below.refl w4.heap.size w4) m
      have CL := lists_same (ls.take rows.length) Am _ cm c (w4.drewN m) (m4.out.below hbm) (HR.out _ (f4.out.below hbm) rows.length) (by rw [hlk.out]; unfold maxLen; omega)
      rw [hlk.out] at CL
      refine CL.mono ?_
      clear CL hbm
      rintro e w7 ⟨rfl, n7, rfl⟩
      have HB7 := Lib.hid (below_drewN HB4.out (m + n7))
      go_wp2_with fail
      exact bodyPost_ret (v := .bool true) (by simp [results, Try.results8, go_sem]) rfl ⟨rfl, HB7.out⟩
end Go.Proofs.Ytoaembpakmpolaa
