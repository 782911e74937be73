/-
  The walk over JournalGoesOn.
-/
import Derived.Test.YtoaembpakmpolaaJouTorn
import Derived.Test.YtoaembpakmpolaaLawAppends
namespace Go.Proofs.Ytoaembpakmpolaa
open Go.RowKit Jou
attribute [local go_sem] ba_get ba_extract ba_append
theorem Fit.both {w : World} {A B C : Option Addr} {c d k : Nat} {ra rb : List Sl} (ha : Fit w A c ra) (hb : Fit w B d rb) (hl : ra.length ≤ 12) (hl2 : rb.length ≤ 12) (hC : Rd w C ((ra ++ rb).map slV)) (hCl : Low w.heap.size C) (hk : ra.length + rb.length ≤ k) (hk2 : k ≤ maxLen) : Fit w C k (ra ++ rb) :=
  ⟨⟨hC, hCl, by rw [List.length_append]; exact hk, hk2, fun r hr => (List.mem_append.1 hr).elim (ha.1.2.2.2.2 r) (hb.1.2.2.2.2 r)⟩, fun r hr => (List.mem_append.1 hr).elim (ha.2.1 r) (hb.2.1 r), by rw [List.length_append]; omega⟩
set_option maxHeartbeats 8000000 in
set_option maxRecDepth 100000 in
theorem goes_walk (ra rb : List Sl) (A B : Option Addr) (c d : Nat) (w : World) (hA : Rows0 w A c ra) (hB : Rows0 w B d rb) :
    Calls Try.prog 9 #[.slice A ra.length c, .slice B rb.length d] w fun e w' => e = .returned (.bool true) ∧ Below w.heap.size w w' := by
  have HA := Lib.hid hA; clear hA
  have HB := Lib.hid hB; clear hB
  by_cases hf : fewB ra = true
  case neg =>
    have hf' : Hid (fewB ra = false) := by show fewB ra = false; simpa using hf
    clear hf
    go_enter Try.func9, Try.ntmps9
    go_wp2_with fail
    refine (head_any w).mono ?_
    rintro e w1 ⟨rfl, hb1⟩
    have HB1 := Lib.hid hb1; clear hb1
    have a1 := Lib.hid (HA.out.below HB1.out)
    go_wp2_with fail
    refine (few_any ra A c w1 a1.out).mono ?_
    rintro e w2 ⟨rfl, n2, rfl⟩
    rw [hf'.out]
    go_wp2_with fail
    exact bodyPost_ret (v := .bool true) (by simp [results, Try.results9, go_sem]) rfl ⟨rfl, below_drewN HB1.out n2⟩
  have hfa := Lib.hid hf
  clear hf
  by_cases hf : fewB rb = true
  case neg =>
    have hf' : Hid (fewB rb = false) := by show fewB rb = false; simpa using hf
    clear hf
    go_enter Try.func9, Try.ntmps9
    go_wp2_with fail
    refine (head_any w).mono ?_
    rintro e w1 ⟨rfl, hb1⟩
    have HB1 := Lib.hid hb1; clear hb1
    have a1 := Lib.hid (HA.out.below HB1.out)
    have b1 := Lib.hid (HB.out.below HB1.out)
    go_wp2_with fail
    refine (few_any ra A c w1 a1.out).mono ?_
    rintro e w2 ⟨rfl, n2, rfl⟩
    rw [hfa.out]
    go_wp2_with fail
    refine (few_any rb B d _ (b1.out.below (below_drewN (Below.refl _ _) n2))).mono ?_
    rintro e w3 ⟨rfl, n3, rfl⟩
    rw [hf'.out]
    go_wp2_with fail
    exact bodyPost_ret (v := .bool true) (by simp [results, Try.results9, go_sem]) rfl ⟨rfl, below_drewN HB1.out (n2 + n3)⟩
  have hfb := Lib.hid hf
  clear hf
  have FA := Lib.hid (fit_of HA.out hfa.out)
  have FB := Lib.hid (fit_of HB.out hfb.out)
  have hla : ra.length ≤ 12 := (few_all hfa.out).2
  have hlb : rb.length ≤ 12 := (few_all hfb.out).2
  go_enter Try.func9, Try.ntmps9
  go_wp2_with fail
  refine (head_any w).mono ?_
  rintro e w1 ⟨rfl, hb1⟩
  have HB1 := Lib.hid hb1; clear hb1
  have a1 := Lib.hid (HA.out.below HB1.out)
  have b1 := Lib.hid (HB.out.below HB1.out)
  go_wp2_with fail
  refine (few_any ra A c w1 a1.out).mono ?_
  rintro e w2 ⟨rfl, n2, rfl⟩
  rw [hfa.out]
  go_wp2_with fail
  refine (few_any rb B d _ (b1.out.below (below_drewN (Below.refl _ _) n2))).mono ?_
  rintro e w3 ⟨rfl, n3, rfl⟩
  rw [hfb.out]
  go_wp2_with fail
  obtain ⟨ls, hls⟩ : ∃ ls, (ra ++ rb).map (·.2.2) = ls := ⟨_, rfl⟩
  have HLS := Lib.hid hls
  have hll : Hid (ls.length = ra.length + rb.length) := by show _ = _; rw [← hls, List.length_map, List.length_append]
  have hTa : ra.map (·.2.2) = ls.take (ra.length + 0) := by rw [← hls, List.map_append, Nat.add_zero, ← List.length_map (·.2.2), List.take_left]
  have HGo : Hid ((∀ b ∈ ls, Jou.Good b) ∧ (∀ b ∈ ls, b.length ≤ 300)) := by
    rw [← hls, List.map_append]
    exact ⟨fun b hb => (List.mem_append.1 hb).elim (FA.out.good.1 b) (FB.out.good.1 b), fun b hb => (List.mem_append.1 hb).elim (FA.out.good.2 b) (FB.out.good.2 b)⟩
  have hgb : Hid (∀ k (h : k < rb.length) (h2 : ra.length + k < ls.length), rb[k].2.2 = ls[ra.length + k]) := by
    intro k h h2
    have : ls[ra.length + k]? = some rb[k].2.2 := by rw [← hls, List.map_append, List.getElem?_append_right (by simp), List.length_map, Nat.add_sub_cancel_left, List.getElem?_map, List.getElem?_eq_getElem h]; rfl
    rw [List.getElem?_eq_getElem h2] at this
    exact (Option.some.inj this).symm
  clear hls
  have hbn := below_drewN HB1.out (n2 + n3)
  have CW := written_any ra A c (w1.drewN (n2 + n3)) (FA.out.below hbn)
  rw [hTa] at CW
  refine CW.mono ?_
  clear CW hTa
  rintro e w4 ⟨Aj, cj, rfl, hj4, hb4⟩
  have j4 := Lib.hid hj4
  have HB4 : Hid (Below w.heap.size w w4) := hbn.trans (hb4.mono hbn.size)
  have fa4 := Lib.hid (FA.out.below HB4.out)
  have fb4 := Lib.hid (FB.out.below HB4.out)
  clear hj4 hb4 hbn FA FB a1 b1 HA HB HB1
  go_wp2_with fail
  go_loopw [6, 8] (fun j i wr => ∃ (k : Nat) (Aj : Option Addr) (cj : Nat), k ≤ rb.length ∧ i = iV k ∧ j = .slice Aj (frs (ls.take (ra.length + k))).length cj ∧ Hid (Bs wr Aj cj (frs (ls.take (ra.length + k)))) ∧ Hid (Below w4.heap.size w4 wr)) (fun _ i _ => rb.length - (intOf i).toNat)
  case atStart => exact ⟨0, Aj, cj, Nat.zero_le _, rfl, rfl, j4, Below.refl _ _⟩
  case round =>
    obtain ⟨k, Aj, cj, hk, rfl, rfl, HJ, HBk⟩ := hrel
    by_cases hlt : k < rb.length
    · have hlt2 : ra.length + k < ls.length := by rw [hll.out]; omega
      obtain ⟨b1, o1, rfl, hb1, hc1⟩ := fb4.out.1.1.get (i := k) (by simpa using hlt)
      have k0 : w4.cell? ⟨b1, o1 + k, none⟩ = some (.slice rb[k].1 rb[k].2.2.length rb[k].2.1) := hc1 k _ (by rw [List.getElem?_map, List.getElem?_eq_getElem hlt]; rfl)
      have k1 : wr.cell? ⟨b1, o1 + k, none⟩ = some (.slice rb[k].1 rb[k].2.2.length rb[k].2.1) := by
        rw [HBk.out.cell (p := ⟨b1, o1 + k, none⟩) hb1]; exact k0
      have i1 : (0 : Int) ≤ (k : Int) := by omega
      have i2 : (k : Int) < (rb.length : Int) := by omega
      have hz : Hid ((frs (ls.take (ra.length + k))).length ≤ 90000) := by
        have h5 := frs_size (ls.take (ra.length + k)) (fun b hb => HGo.out.2 b (List.mem_of_mem_take hb))
        rw [List.length_take] at h5
        show _ ≤ _
        have := hll.out
        omega
      have fk := fb4.out.below HBk.out
      have hrow := fk.1.2.2.2.2 rb[k] (List.getElem_mem _)
      have hlow := hrow.2.2.2 (fk.2.1 rb[k] (List.getElem_mem _)).1
      have CA := append_any (frs (ls.take (ra.length + k))) rb[k].2.2 Aj rb[k].1 cj rb[k].2.1 wr HJ.out.1 HJ.out.2.1 hrow.1 hlow HJ.out.2.2.1 HJ.out.2.2.2 hz.out (by have := hrow.2.1; have := hrow.2.2.1; omega)
      rw [show appendR (frs (ls.take (ra.length + k))) rb[k].2.2 = (frs (ls.take (ra.length + k + 1)), 0) by rw [hgb.out k hlt hlt2]; exact app_next ls HGo.out.1 (by rw [hll.out]; omega) _ hlt2] at CA
      have CA := Lib.hid CA
      clear k0 hc1 fk hrow hlow
      go_wp2_with fail
      refine CA.out.mono ?_
      rintro e w5 ⟨Ax, cx, rfl, hown5, hb5⟩
      have HX := Lib.hid (Bs.of_own hown5)
      have HB5 := Lib.hid (HBk.out.trans (hb5.mono HBk.out.size))
      clear hown5 hb5 CA
      go_wp2
      go_roundw
      case rel => exact ⟨k + 1, Ax, cx, by omega, by go_num, rfl, HX, HB5⟩
      case measure => simp [intOf]; omega
    · obtain rfl : k = rb.length := by omega
      have hTl : ls.take (ra.length + rb.length) = ls := by rw [← hll.out, List.take_length]
      rw [hTl] at HJ ⊢
      clear hTl
      obtain ⟨i0, hi0, hz0, hz1, hz2⟩ := info_parts slInfo
      have HI := Lib.hid (And.intro hi0 (And.intro hz0 (And.intro hz1 hz2)))
      clear hi0 hz0 hz1 hz2
      have fa5 := Lib.hid (fa4.out.below HBk.out)
      have fb5 := Lib.hid (fb4.out.below HBk.out)
      have o5 : Hid ((wr.alloc (.cells #[] 38)).ownsRow wr.heap.size 38 1 (.slice (some ⟨wr.heap.size, 0, none⟩) 0 0) 0 []) := ⟨rfl, .inr ⟨wr.heap.size, 0, #[], rfl, Nat.le_refl _, heap_alloc_new _ _, Nat.le_refl _, Nat.zero_le _, rfl, rfl⟩⟩
      have s5 : Hid (Rd (wr.alloc (.cells #[] 38)) A (ra.map slV)) := fa5.out.1.1.below (ba _ _)
      go_wp2_with (first
        | (at_builtin; refine wpList_app (by rfl) (.tmp 49) (.tmp 50) _ _ (by rfl) wr.heap.size 38 i0 _ 1 24 Try.underlying46 HI.out.1 HI.out.2.1 HI.out.2.2.1 HI.out.2.2.2 (by rfl) _ 0 _ (by rfl) o5.out _ (by rfl) ra.length _ (src_rd Try.underlying46 s5.out (by simp) (one_sl _)) (by unfold maxLen; omega) (by omega) (by simp) ?_; intro A5 c5 w5 hown5 hgrow5 _; simp only [Nat.zero_add, List.nil_append] at hown5; have HO5 := Lib.hid hown5; have HB5 : Hid (Below wr.heap.size wr w5) := (ba wr _).trans (g_below o5.out hgrow5 (Nat.le_refl _) (by simp)); have s6 : Hid (Rd w5 B (rb.map slV)) := fb5.out.1.1.below HB5.out; clear hown5 hgrow5)
        | (at_builtin; refine wpList_app (by rfl) (.tmp 51) (.tmp 52) _ _ (by rfl) wr.heap.size 38 i0 _ 1 24 Try.underlying46 HI.out.1 HI.out.2.1 HI.out.2.2.1 HI.out.2.2.2 (by rfl) _ ra.length _ (by rfl) HO5.out _ (by rfl) rb.length _ (src_rd Try.underlying46 s6.out (by simp) (one_sl _)) (by unfold maxLen; omega) (by omega) HB5.out.size ?_; intro A6 c6 w6 hown6 hgrow6 _; have HO6 := Lib.hid hown6; have HB6 : Hid (Below wr.heap.size wr w6) := HB5.out.trans (g_below HO5.out hgrow6 (Nat.le_refl _) HB5.out.size); clear hown6 hgrow6))
      have hrl : ra.length + rb.length = (ra ++ rb).length := by rw [List.length_append]
      obtain ⟨A7, c7, hv, hc1, hc2, _⟩ := Rd.of_own HO6.out
      cases hv
      have f6 : Hid (Fit w6 A6 c6 (ra ++ rb)) := Fit.both (fa5.out.below HB6.out) (fb5.out.below HB6.out) hla hlb (by rw [List.map_append]; exact own_rd HO6.out) (fun a ha => (own_at HO6.out a ha).2) hc1 hc2
      have j6 := Lib.hid (HJ.out.below HB6.out)
      have CW := written_any (ra ++ rb) A6 c6 w6 f6.out
      rw [HLS.out, ← hrl] at CW
      refine CW.mono ?_
      clear CW
      rintro e w7 ⟨Aw, cw, rfl, hj7, hb7⟩
      have x7 := Lib.hid hj7
      have j7 := Lib.hid (j6.out.below hb7)
      have f7 := Lib.hid (f6.out.below hb7)
      have HB7 : Hid (Below wr.heap.size wr w7) := HB6.out.trans (hb7.mono HB6.out.size)
      clear hj7 hb7 j6 f6 HO6 HO5 HB6 HB5 s6 s5 o5 hc1 hc2 hrl
      have hz : (frs ls).length ≤ 90000 := by have h5 := frs_size ls HGo.out.2; have := hll.out; omega
      go_wp2_with fail
      have CR := records_all (frs ls) Aj cj w7 j7.out.1 j7.out.2.1 j7.out.2.2.1 j7.out.2.2.2 hz
      unfold RecRes at CR
      rw [recs_frs ls HGo.out.1 (by rw [hll.out]; omega), offs_all] at CR
      refine CR.mono ?_
      clear CR
      rintro e w8 ⟨rows2, Am, cm, hrows2, rfl, hown8, heach8, hb8⟩
      have m8 := Lib.hid (rdl_of hown8 heach8)
      rw [hrows2] at m8
      have hrl2 : rows2.length = ra.length + rb.length := by have := congrArg List.length hrows2; rw [List.length_map, hll.out] at this; exact this
      have j8 := Lib.hid (j7.out.below hb8)
      have x8 := Lib.hid (x7.out.below hb8)
      have f8 := Lib.hid (f7.out.below hb8)
      have HB8 : Hid (Below w.heap.size w w8) := bt (bt HB4.out HBk.out) (HB7.out.trans (hb8.mono HB7.out.size))
      rw [hrl2]
      clear hrl2 hrows2 hown8 heach8 hb8 j7 x7 f7 HB7
      go_wp2_with fail
      refine (bytes_any (frs ls) (frs ls) Aj Aw cj cw w8 j8.out.1 x8.out.1 (by have := x8.out.2.2; omega)).mono ?_
      rintro e w9 ⟨rfl, n9, rfl⟩
      rw [decide_eq_true (rfl : frs ls = frs ls)]
      go_wp2_with fail
      have hbm := below_drewN (Below.refl w8.heap.size w8) n9
      have fr := (f8.out.below hbm).rdl
      rw [HLS.out] at fr
      have CL := lists_same ls Am A6 cm c6 (w8.drewN n9) (m8.out.below hbm) fr (by rw [hll.out]; unfold maxLen; omega)
      rw [hll.out] at CL
      refine CL.mono ?_
      clear CL hbm fr
      rintro e w10 ⟨rfl, n10, rfl⟩
      have HB10 := Lib.hid (below_drewN HB8.out (n9 + n10))
      go_wp2_with fail
      exact bodyPost_ret (v := .bool true) (by simp [results, Try.results9, go_sem]) rfl ⟨rfl, HB10.out⟩
end Go.Proofs.Ytoaembpakmpolaa
