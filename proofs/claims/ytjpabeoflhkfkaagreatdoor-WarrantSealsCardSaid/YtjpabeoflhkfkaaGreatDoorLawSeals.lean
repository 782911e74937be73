/-
  The walk over the law WarrantSeals.
-/
import Derived.Test.YtjpabeoflhkfkaaGreatDoorWarOwn
namespace Go.Proofs.YtjpabeoflhkfkaaGreatDoor
open Go.RowKit
attribute [local go_sem] Oper.semAt_some

/-- The numbers of a law's argument. -/
def numsR (l : List Int) : List Int := l.map (· % 65520)
def NumP (l : List Int) (w : World) (e : Ending) (w' : World) : Prop := ∃ v, e = .returned v ∧ w'.ownsRow w.heap.size 3 1 v l.length ((numsR l).map iV) ∧ Below w.heap.size w w'
set_option maxHeartbeats 4000000 in
set_option maxRecDepth 100000 in
theorem lnums_any (l : List Int) (A : Option Addr) (c : Nat) (w : World) (hr : Rd w A (l.map uV)) (hb : ∀ x ∈ l, 0 ≤ x ∧ x ≤ 65535) (hl : l.length ≤ 200) :
    Calls Tryz.prog 9 #[.slice A l.length c] w (NumP l w) := by
  have HR := Lib.hid hr
  have HB := Lib.hid hb
  have HO : Hid ((w.alloc (.cells #[] 3)).ownsRow w.heap.size 3 1 (.slice (some ⟨w.heap.size, 0, none⟩) 0 0) 0 []) := ⟨rfl, .inr ⟨w.heap.size, 0, #[], rfl, Nat.le_refl _, heap_alloc_new _ _, Nat.le_refl _, by decide, rfl, rfl⟩⟩
  have HBA := Lib.hid (ba w (.cells #[] 3))
  obtain ⟨i0, hi0, hz0, hz1, hz2⟩ := info_parts intWInf
  clear hr hb
  go_enter Tryz.func9, Tryz.ntmps9
  go_wp2_with fail
  go_loopw [3, 4] (fun o i wr => ∃ k : Nat, k ≤ l.length ∧ i = iV k ∧ wr.ownsRow w.heap.size 3 1 o k ((numsR (l.take k)).map iV) ∧ Below w.heap.size w wr) (fun _ i _ => l.length + 1 - (intOf i).toNat)
  case atStart => exact ⟨0, by omega, rfl, HO.out, HBA.out⟩
  case round =>
  obtain ⟨k, hk, rfl, hown, hbw⟩ := hrel
  have HOW := Lib.hid hown
  have HBW := Lib.hid hbw
  clear hown hbw
  have k0 : (0 : Int) ≤ (k : Int) := by omega
  by_cases hlt : k < l.length
  case neg =>
    have k1 : ¬ (k : Int) < (l.length : Int) := by omega
    go_wp2_with fail
    go_ret
    obtain rfl : k = l.length := by omega
    refine ⟨_, rfl, ?_, HBW.out⟩
    have h := HOW.out
    rw [List.take_length] at h
    exact h
  have HLT := Lib.hid hlt
  have k1 : (k : Int) < (l.length : Int) := by omega
  obtain ⟨S, so, hA, hS, hcell⟩ := HR.out.get (i := k) (by simpa using hlt)
  obtain ⟨x, hx⟩ : ∃ x, l[k]? = some x := ⟨_, List.getElem?_eq_getElem hlt⟩
  have c1 : wr.cell? ⟨S, so + k, none⟩ = some (uV x) := (HBW.out.cell (p := ⟨S, so + k, none⟩) hS).trans (hcell k (uV x) (by rw [List.getElem?_map, hx]; rfl))
  obtain ⟨x0, x1⟩ := HB.out x (List.mem_of_getElem? hx)
  have HXE := Lib.hid hx
  have HAE := Lib.hid hA
  have HSL := Lib.hid HBW.out.size
  obtain ⟨ua, uc, rfl⟩ := own_slice HOW.out
  clear hcell hx hS
  rw [hA]
  clear hA
  have HN := Lib.hid (heap_alloc_new wr (.cells #[iV (x % 65520)] 3))
  have HBN := Lib.hid (ba wr (.cells #[iV (x % 65520)] 3))
  go_wp2_with (at_builtin; refine wpList_append_lies _ rfl _ _ _ rfl w.heap.size 3 i0 _ 1 8 Tryz.underlying25 hi0 hz0 hz1 hz2 rfl (by omega) _ _ _ rfl (own_below HOW.out HBN.out) ⟨wr.heap.size, 0, none⟩ 1 1 [iV (x % 65520)] rfl rfl (fun j u hu => by rw [add_at, Nat.zero_add]; exact (cell_of_row _ _ j _ _ _ HN.out).trans (by simpa using hu)) (fun u hu => by simp at hu; subst hu; rfl) (by omega) (by unfold maxLen; omega) (by omega) (by have := HSL.out; simp; omega) (wr.heap.size + 1) (by simp) ?_; intro g cap w3 own1 hgrow hat hlt9)
  have HO2 : Hid (w3.ownsRow w.heap.size 3 1 (.slice (some ⟨g, 0, none⟩) (k + 1) cap) (k + 1) ((numsR (l.take (k + 1))).map iV)) := by
    show World.ownsRow _ _ _ _ _ _ _
    rw [take_one HXE.out]
    simpa [numsR] using own1
  have HB2 : Hid (Below w.heap.size w w3) := (HBW.out.trans (HBN.out.mono HSL.out)).grown hgrow (by have := HSL.out; simp; omega) (fun q e => by
    have e' : Value.ownBlock (.slice ua k uc) = some q := e
    exact own_ge HOW.out e')
  clear own1 hgrow hat hlt9 c1
  go_wp2_with fail
  go_roundw
  case rel => exact ⟨k + 1, by have := HLT.out; omega, by go_num, HO2.out, HB2.out⟩
  case measure => have := HLT.out; simp [intOf]; omega
theorem numsR_in {l : List Int} (h : ∀ x ∈ l, 0 ≤ x ∧ x ≤ 65535) : ∀ x ∈ numsR l, 0 ≤ x ∧ x < 65521 := fun x hx => by
  obtain ⟨y, hy, rfl⟩ := List.mem_map.1 hx
  have := h y hy
  omega
theorem numsR_len (l : List Int) : (numsR l).length = l.length := by unfold numsR; simp
set_option maxHeartbeats 8000000 in
set_option maxRecDepth 100000 in
theorem seals_any (l : List Int) (A : Option Addr) (c z y : Nat) (m : Int) (w : World) (hr : Rd w A (l.map uV)) (hb : ∀ x ∈ l, 0 ≤ x ∧ x ≤ 65535) (hl : l.length ≤ maxLen) (hz : z ≤ 65535) (hy : y ≤ 65535) (hk : KW w) (hm : w.cell? ⟨1, 0, none⟩ = some (iV m)) :
    Calls Tryz.prog 3 #[.slice A l.length c, uV z, uV y] w fun e w' => e = .returned (.bool true) ∧ Below w.heap.size w w' := by
  have HR := Lib.hid hr
  have HB := Lib.hid hb
  have HK := Lib.hid hk
  have HM := Lib.hid hm
  unfold maxLen at hl
  clear hr hb hk hm
  go_enter Tryz.func3, Tryz.ntmps3
  go_wp2_with fail
  refine (head8_any _ m HK.out HM.out).mono ?_
  rintro e w1 ⟨rfl, hb⟩
  have HB1 := Lib.hid hb
  have HR1 := Lib.hid (HR.out.below hb)
  clear hb HR HK HM
  by_cases h200 : 200 < l.length
  case pos =>
    have e1 : (200 : Int) < (l.length : Int) := by omega
    go_wp2_with fail
    go_ret
    exact ⟨rfl, HB1.out⟩
  have e1 : ¬ (200 : Int) < (l.length : Int) := by omega
  by_cases h0 : l.length = 0
  case pos =>
    have e2 : ((l.length : Int) == 0) = true := by simp [h0]
    clear h0
    go_wp2_with fail
    go_ret
    exact ⟨rfl, HB1.out⟩
  have e2 : ((l.length : Int) == 0) = false := by rw [beq_eq_false_iff_ne]; omega
  have hl0 : 0 < l.length := by omega
  have hl1 : (0 : Int) < (l.length : Int) := by omega
  clear h0
  go_wp2_with fail
  refine (lnums_any l A c _ HR1.out HB.out (by omega)).mono ?_
  rintro e w2 ⟨v1, rfl, hown, hb⟩
  obtain ⟨g1, cap1, rfl, hg1, hg1l, hrd1, -⟩ := own_rd hown hl0
  have HB2 := Lib.hid (bt HB1.out hb)
  have HR2 := Lib.hid (HR1.out.below hb)
  have HX2 := Lib.hid hrd1
  clear hb hown hrd1 HR1
  go_wp2_with fail
  refine (lnums_any l A c _ HR2.out HB.out (by omega)).mono ?_
  rintro e w3 ⟨v2, rfl, hown, hb⟩
  obtain ⟨g2, cap2, rfl, hg2, hg2l, hrd2, cs2, hcs2⟩ := own_rd hown hl0
  have HB3 := Lib.hid (bt HB2.out hb)
  have HX3 := Lib.hid (HX2.out.below hb)
  have HY3 := Lib.hid hrd2
  clear hb hown hrd2 HR2 HX2
  have hq : z % l.length < l.length := Nat.mod_lt _ hl0
  obtain ⟨old, hold⟩ : ∃ x, (numsR l)[z % l.length]? = some x := ⟨_, List.getElem?_eq_getElem (by rw [numsR_len]; exact hq)⟩
  have HNE : Hid (g1 ≠ g2) := by show _ ≠ _; omega
  have c2 : w3.cell? ⟨g2, z % l.length, none⟩ = some (iV old) := by
    obtain ⟨b, o, hA, -, hc⟩ := HY3.out.get (i := z % l.length) (by rw [List.length_map, numsR_len]; exact hq)
    cases hA
    have := hc _ (iV old) (by rw [List.getElem?_map, hold]; rfl)
    rwa [Nat.zero_add] at this
  have c1 : w3.cell? ⟨g1, z % l.length, none⟩ = some (iV old) := by
    obtain ⟨b, o, hA, -, hc⟩ := HX3.out.get (i := z % l.length) (by rw [List.length_map, numsR_len]; exact hq)
    cases hA
    have := hc _ (iV old) (by rw [List.getElem?_map, hold]; rfl)
    rwa [Nat.zero_add] at this
  have f2 := frozen_row hcs2 (z % l.length)
  have HX4 : Hid (Rd (w3.setCell ⟨g2, z % l.length, none⟩ (iV ((y : Int) % 65520))) (some ⟨g1, 0, none⟩) ((numsR l).map iV)) := HX3.out.same (by simp) (fun a ha _ => Below.heap_setCell _ _ _ _ (by cases ha; exact HNE.out))
  have HY4 : Hid (Rd (w3.setCell ⟨g2, z % l.length, none⟩ (iV ((y : Int) % 65520))) (some ⟨g2, 0, none⟩) (((numsR l).set (z % l.length) ((y : Int) % 65520)).map iV)) := rd_set HY3.out (by rw [numsR_len]; exact hq)
  have d1 : (w3.setCell ⟨g2, z % l.length, none⟩ (iV ((y : Int) % 65520))).cell? ⟨g1, z % l.length, none⟩ = some (iV old) := by
    rw [World.cell?_setCell_other _ _ _ _ (by have := HNE.out; simp <;> omega)]
    exact c1
  have d2 : (w3.setCell ⟨g2, z % l.length, none⟩ (iV ((y : Int) % 65520))).cell? ⟨g2, z % l.length, none⟩ = some (iV ((y : Int) % 65520)) := World.cell?_setCell_same' _ _ _ (by rw [c2]; rfl)
  have HB4 : Hid (Below w.heap.size w (w3.setCell ⟨g2, z % l.length, none⟩ (iV ((y : Int) % 65520)))) := HB3.out.setCell (by have := HB2.out.size; show w.heap.size ≤ g2; omega) _
  have hlaw := seal_law (numsR_in HB.out) (y := (y : Int) % 65520) (by omega) (by omega) (i := z % l.length) (by rw [numsR_len]; exact hq)
  have hoe : (numsR l)[z % l.length]'(by rw [numsR_len]; exact hq) = old := by
    rw [List.getElem?_eq_getElem (by rw [numsR_len]; exact hq)] at hold
    exact Option.some.inj hold
  rw [hoe] at hlaw
  have HNL : Hid ((numsR l).length = l.length ∧ ((numsR l).set (z % l.length) ((y : Int) % 65520)).length = l.length) := ⟨numsR_len l, by rw [List.length_set]; exact numsR_len l⟩
  have HSI : Hid ((∀ x ∈ numsR l, I64 x) ∧ ∀ x ∈ (numsR l).set (z % l.length) ((y : Int) % 65520), I64 x) := ⟨fun x hx => by have := numsR_in HB.out x hx; unfold I64; omega, fun x hx => by
    rcases List.mem_or_eq_of_mem_set hx with hx | rfl
    · have := numsR_in HB.out x hx; unfold I64; omega
    · unfold I64; omega⟩
  have hzi : (0 : Int) ≤ (z : Int) := by omega
  have hzi2 : (z : Int) ≤ 65535 := by omega
  have hyi : (0 : Int) ≤ (y : Int) := by omega
  have hyi2 : (y : Int) ≤ 65535 := by omega
  clear hoe hold
  generalize hys : (numsR l).set (z % l.length) ((y : Int) % 65520) = ys at *
  generalize hxs : numsR l = xs at *
  have HSE : Hid (∀ W g zs c, Rd W (some ⟨g, 0, none⟩) (List.map iV zs) → zs.length = l.length → (∀ x ∈ zs, I64 x) → Calls Tryz.prog 10 #[.slice (some ⟨g, 0, none⟩) l.length c] W fun e w' => e = .returned (iV (sealR zs)) ∧ W = w') := fun W g zs c h1 h2 h3 => by
    have := seal_any zs (some ⟨g, 0, none⟩) c W h1 (by omega) h3
    rwa [h2] at this
  have HBO : Hid ((sealR xs == sealR ys) = (old == (y : Int) % 65520)) := by
    show _ = _
    by_cases h : old = (y : Int) % 65520
    · rw [hlaw.2 h, h]; simp
    · have h2 : ¬ sealR xs = sealR ys := fun e => h (hlaw.1 e)
      rw [beq_eq_false_iff_ne.2 h, beq_eq_false_iff_ne.2 h2]
  clear hlaw hcs2 hys hxs hq HX3 HY3 HB3 HB2 HB
  have m0 : (0 : Int) ≤ (z : Int) % (l.length : Int) := Int.emod_nonneg _ (by omega)
  have m1 : (z : Int) % (l.length : Int) < (l.length : Int) := Int.emod_lt_of_pos _ (by omega)
  go_wp2_with fail
  have HF : Hid True := trivial
  have hT : ((z : Int) % (l.length : Int)).toNat = z % l.length := by rw [← Int.natCast_emod]; exact Int.toNat_natCast _
  have HC4 : Hid ((w3.setCell ⟨g2, z % l.length, none⟩ (iV ((y : Int) % 65520))).drew.cell? ⟨g1, ((z : Int) % (l.length : Int)).toNat, none⟩ = some (iV old) ∧ (w3.setCell ⟨g2, z % l.length, none⟩ (iV ((y : Int) % 65520))).drew.cell? ⟨g2, ((z : Int) % (l.length : Int)).toNat, none⟩ = some (iV ((y : Int) % 65520))) := by
    show _ ∧ _
    rw [hT]
    exact ⟨d1, d2⟩
  clear hT
  clear c1 c2 f2 d1 d2
  change Code.wp _ _ _ _ (w3.setCell ⟨g2, z % l.length, none⟩ (iV ((y : Int) % 65520)))
  generalize (w3.setCell ⟨g2, z % l.length, none⟩ (iV ((y : Int) % 65520))) = W4 at *
  have eb := HBO.out
  generalize hsx : sealR xs = sx at *
  generalize hsy : sealR ys = sy at *
  have HSX := Lib.hid hsx
  have HSY := Lib.hid hsy
  have HS1 : Hid (∀ W, Rd W (some ⟨g1, 0, none⟩) (List.map iV xs) → Calls Tryz.prog 10 #[.slice (some ⟨g1, 0, none⟩) l.length cap1] W fun e w' => e = .returned (iV sx) ∧ W = w') := fun W h => by
    have := HSE.out W g1 xs cap1 h HNL.out.1 HSI.out.1
    rwa [hsx] at this
  have HS2 : Hid (∀ W, Rd W (some ⟨g2, 0, none⟩) (List.map iV ys) → Calls Tryz.prog 10 #[.slice (some ⟨g2, 0, none⟩) l.length cap2] W fun e w' => e = .returned (iV sy) ∧ W = w') := fun W h => by
    have := HSE.out W g2 ys cap2 h HNL.out.2 HSI.out.2
    rwa [hsy] at this
  clear hsx hsy HSE eb
  cases hbb : (old == (y : Int) % 65520)
  all_goals
    have e8 : (sx == sy) = (old == (y : Int) % 65520) := HBO.out
    rw [hbb] at e8
    clear HBO
    go_region_held3 (fun w' => w'.cell? ⟨g1, ((z : Int) % (l.length : Int)).toNat, none⟩ = some (iV old) ∧ w'.cell? ⟨g2, ((z : Int) % (l.length : Int)).toNat, none⟩ = some (iV ((y : Int) % 65520))) (first | (with_reducible exact HC4.out)) (first
        | (go_at_call 10; have hguard := HF.out; refine (HS1.out _ (HX4.out.below (b_drew (Below.refl _ _)))).mono ?_; rintro e wq ⟨rfl, rfl⟩; clear HF)
        | (go_at_call 10; refine (HS2.out _ (HY4.out.below (b_drew (Below.refl _ _)))).mono ?_; rintro e wq ⟨rfl, rfl⟩)
        | fail)
    go_wp2_with fail
    go_ret
    exact ⟨rfl, b_drew HB4.out⟩
end Go.Proofs.YtjpabeoflhkfkaaGreatDoor
