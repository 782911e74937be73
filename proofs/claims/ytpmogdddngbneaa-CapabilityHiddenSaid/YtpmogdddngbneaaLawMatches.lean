/-
  CapabilityMatchesReference and CapabilityRight: the walks.
-/
import Derived.Test.YtpmogdddngbneaaCapHead
namespace Go.Proofs.Ytpmogdddngbneaa
open Go.RowKit Go.Sort

/-- A text that came in. -/
abbrev Len (l : List UInt8) : Prop := l.length ≤ 9223372036854775807
set_option maxHeartbeats 4000000 in
set_option maxRecDepth 100000 in
theorem matches_ok (s : Int) (l : List UInt8) (AE AW : Option Addr) (cE cW : Nat) (evs : List EvC) (ws : List NsC) (w : World) (hs : I64 s) (hl : l.length ≤ 40) (hE : Events0 w AE evs) (hW : Worlds0 w AW ws) (hF : fewB evs ws = true) (r : Bool) (t : Int) (ht : r = false → t = tok s l) :
    Calls Try.prog 3 #[iV s, iV t, sV l, .slice AE evs.length cE, .slice AW ws.length cW, .bool r] w fun e w' => e = .returned (.bool true) ∧ Below w.heap.size w w' := by
  obtain ⟨f1, f2, f3, f4⟩ := few_all hF
  have CF : Hid (∀ w', Below w.heap.size w w' → Calls Try.prog 9 #[.slice AE evs.length cE, .slice AW ws.length cW] w' fun e w2 => e = .returned (.bool true) ∧ w' = w2) := fun w' hb => by
    have := few_any evs ws AE AW cE cW w' (hE.below hb) (hW.below hb)
    rwa [hF] at this
  have HE := Lib.hid (hE.few f1 f3)
  have HW := Lib.hid (hW.few f2 f4)
  have hle : evs.length ≤ 1000 := by omega
  have HI := Lib.hid hs
  have h40 : ¬ (40 : Int) < (l.length : Int) := by omega
  have ht1 : (tok s l == tok s l) = true := by simp
  clear f1 f2 hF hE hW hs
  cases r with
  | false =>
    obtain rfl := ht rfl
    clear ht
    go_enter Try.func3, Try.ntmps3
    go_wp2_with fail
    refine (head_any _).mono ?_
    rintro e w1 ⟨rfl, hb1⟩
    have HB1 := Lib.hid hb1; clear hb1
    go_wp2_with fail
    refine (CF.out _ HB1.out).mono ?_
    rintro e w2 ⟨rfl, rfl⟩
    go_wp2_with fail
    refine (see_ok s l AE AW cE cW evs ws _ HI.out (by omega) (HE.out.below HB1.out) (HW.out.below HB1.out)).mono ?_
    rintro e w2 ⟨A1, c1, o, rfl, hr1, hl1, hsn, hb2⟩
    have HB2 := Lib.hid (bt HB1.out hb2); have HR1 := Lib.hid hr1; have HL1 := Lib.hid hl1; have HS1 := Lib.hid hsn
    clear hb2 hr1 hl1 hsn
    go_wp2_with fail
    refine (rsee_ok s l AE AW cE cW evs ws _ HI.out (by omega) (HE.out.below HB2.out) (HW.out.below HB2.out) hle).mono ?_
    rintro e w3 ⟨A2, c2, o2, rfl, hr1, hl1, hsn, hb2⟩
    obtain rfl := seen_ext hsn HS1.out
    have HB3 := Lib.hid (bt HB2.out hb2); have HR2 := Lib.hid hr1; have HRR := Lib.hid (HR1.out.below hb2)
    clear hb2 hr1 hl1 hsn HS1
    go_wp2_with fail
    refine (token_any s l _ HI.out (by omega)).mono ?_
    rintro e w4 ⟨rfl, hb2⟩
    have HB4 := Lib.hid hb2; clear hb2
    go_wp2_with fail
    refine (rtoken_any s l _ HI.out (by omega)).mono ?_
    rintro e w5 ⟨rfl, hb2⟩
    have HB5 := Lib.hid (bt HB4.out hb2); clear hb2
    go_wp2_with fail
    refine (same_any o2 o2 A1 A2 c1 c2 _ (HRR.out.below HB5.out) (HR2.out.below HB5.out) HL1.out HL1.out).mono ?_
    rintro e w6 ⟨rfl, hq⟩
    have HB6 := Lib.hid (bt (bt HB3.out HB5.out) (below_dq hq)); clear hq
    go_wp2
    go_ret
    exact ⟨by simp, HB6.out⟩
  | true =>
    clear ht
    go_enter Try.func3, Try.ntmps3
    go_wp2_with fail
    refine (head_any _).mono ?_
    rintro e w1 ⟨rfl, hb1⟩
    have HB1 := Lib.hid hb1; clear hb1
    go_wp2_with fail
    refine (CF.out _ HB1.out).mono ?_
    rintro e w2 ⟨rfl, rfl⟩
    go_wp2_with fail
    refine (rtoken_any s l _ HI.out (by omega)).mono ?_
    rintro e w1' ⟨rfl, hb2⟩
    have HB1 := Lib.hid (bt HB1.out hb2); clear hb2
    go_wp2_with fail
    refine (see_ok s l AE AW cE cW evs ws _ HI.out (by omega) (HE.out.below HB1.out) (HW.out.below HB1.out)).mono ?_
    rintro e w2 ⟨A1, c1, o, rfl, hr1, hl1, hsn, hb2⟩
    have HB2 := Lib.hid (bt HB1.out hb2); have HR1 := Lib.hid hr1; have HL1 := Lib.hid hl1; have HS1 := Lib.hid hsn
    clear hb2 hr1 hl1 hsn
    go_wp2_with fail
    refine (rsee_ok s l AE AW cE cW evs ws _ HI.out (by omega) (HE.out.below HB2.out) (HW.out.below HB2.out) hle).mono ?_
    rintro e w3 ⟨A2, c2, o2, rfl, hr1, hl1, hsn, hb2⟩
    obtain rfl := seen_ext hsn HS1.out
    have HB3 := Lib.hid (bt HB2.out hb2); have HR2 := Lib.hid hr1; have HRR := Lib.hid (HR1.out.below hb2)
    clear hb2 hr1 hl1 hsn HS1
    go_wp2_with fail
    refine (token_any s l _ HI.out (by omega)).mono ?_
    rintro e w4 ⟨rfl, hb2⟩
    have HB4 := Lib.hid hb2; clear hb2
    go_wp2_with fail
    refine (rtoken_any s l _ HI.out (by omega)).mono ?_
    rintro e w5 ⟨rfl, hb2⟩
    have HB5 := Lib.hid (bt HB4.out hb2); clear hb2
    go_wp2_with fail
    refine (same_any o2 o2 A1 A2 c1 c2 _ (HRR.out.below HB5.out) (HR2.out.below HB5.out) HL1.out HL1.out).mono ?_
    rintro e w6 ⟨rfl, hq⟩
    have HB6 := Lib.hid (bt (bt HB3.out HB5.out) (below_dq hq)); clear hq
    go_wp2
    go_ret
    exact ⟨by simp, HB6.out⟩
set_option maxHeartbeats 4000000 in
set_option maxRecDepth 100000 in
theorem matches_bad (s : Int) (l : List UInt8) (AE AW : Option Addr) (cE cW : Nat) (evs : List EvC) (ws : List NsC) (w : World) (hs : I64 s) (hl : l.length ≤ 40) (hE : Events0 w AE evs) (hW : Worlds0 w AW ws) (hF : fewB evs ws = true) (t : Int) (ht : t ≠ tok s l) :
    Calls Try.prog 3 #[iV s, iV t, sV l, .slice AE evs.length cE, .slice AW ws.length cW, .bool false] w fun e w' => e = .returned (.bool true) ∧ Below w.heap.size w w' := by
  have CF : Hid (∀ w', Below w.heap.size w w' → Calls Try.prog 9 #[.slice AE evs.length cE, .slice AW ws.length cW] w' fun e w2 => e = .returned (.bool true) ∧ w' = w2) := fun w' hb => by
    have := few_any evs ws AE AW cE cW w' (hE.below hb) (hW.below hb)
    rwa [hF] at this
  have HI := Lib.hid hs
  have HT := Lib.hid ht
  have h40 : ¬ (40 : Int) < (l.length : Int) := by omega
  have ht1 : (tok s l == tok s l) = true := by simp
  clear hF hE hW hs ht
  go_enter Try.func3, Try.ntmps3
  go_wp2_with fail
  refine (head_any _).mono ?_
  rintro e w1 ⟨rfl, hb1⟩
  have HB1 := Lib.hid hb1; clear hb1
  go_wp2_with fail
  refine (CF.out _ HB1.out).mono ?_
  rintro e w2 ⟨rfl, rfl⟩
  go_wp2_with fail
  refine (see_bad s t l AE AW cE cW _ _ _ HI.out (by omega) HT.out).mono ?_
  rintro e w2 ⟨rfl, hb2⟩
  have HB2 := Lib.hid (bt HB1.out hb2); clear hb2
  go_wp2_with fail
  refine (rsee_bad s t l AE AW cE cW _ _ _ HI.out (by omega) HT.out).mono ?_
  rintro e w3 ⟨rfl, hb2⟩
  have HB3 := Lib.hid (bt HB2.out hb2); clear hb2
  go_wp2_with fail
  refine (token_any s l _ HI.out (by omega)).mono ?_
  rintro e w4 ⟨rfl, hb2⟩
  have HB4 := Lib.hid hb2; clear hb2
  go_wp2_with fail
  refine (rtoken_any s l _ HI.out (by omega)).mono ?_
  rintro e w5 ⟨rfl, hb2⟩
  have HB5 := Lib.hid (bt HB4.out hb2); clear hb2
  go_wp2_with fail
  refine (same_any [] [] none none 0 0 _ (Rd.nil _ _) (Rd.nil _ _) (by simp) (by simp)).mono ?_
  rintro e w6 ⟨rfl, hq⟩
  have HB6 := Lib.hid (bt (bt HB3.out HB5.out) (below_dq hq)); clear hq
  go_wp2
  go_ret
  exact ⟨by simp, HB6.out⟩
set_option maxHeartbeats 2000000 in
set_option maxRecDepth 100000 in
theorem matches_any (s t : Int) (l : List UInt8) (AE AW : Option Addr) (cE cW : Nat) (evs : List EvC) (ws : List NsC) (r : Bool) (w : World) (hs : I64 s) (hl : Len l) (hE : Events0 w AE evs) (hW : Worlds0 w AW ws) :
    Calls Try.prog 3 #[iV s, iV t, sV l, .slice AE evs.length cE, .slice AW ws.length cW, .bool r] w fun e w' => e = .returned (.bool true) ∧ Below w.heap.size w w' := by
  by_cases h40 : l.length ≤ 40
  · cases hF : fewB evs ws
    · have CF : Hid (∀ w', Below w.heap.size w w' → Calls Try.prog 9 #[.slice AE evs.length cE, .slice AW ws.length cW] w' fun e w2 => e = .returned (.bool false) ∧ w' = w2) := fun w' hb => by
        have := few_any evs ws AE AW cE cW w' (hE.below hb) (hW.below hb)
        rwa [hF] at this
      have h40' : ¬ (40 : Int) < (l.length : Int) := by omega
      clear hF hE hW h40
      go_enter Try.func3, Try.ntmps3
      go_wp2_with fail
      refine (head_any _).mono ?_
      rintro e w1 ⟨rfl, hb1⟩
      have HB1 := Lib.hid hb1; clear hb1
      go_wp2_with fail
      refine (CF.out _ HB1.out).mono ?_
      rintro e w2 ⟨rfl, rfl⟩
      go_wp2
      go_ret
      exact ⟨rfl, HB1.out⟩
    · cases r with
      | true => exact matches_ok s l AE AW cE cW evs ws w hs h40 hE hW hF true t (fun h => by cases h)
      | false =>
        by_cases ht : t = tok s l
        · exact matches_ok s l AE AW cE cW evs ws w hs h40 hE hW hF false t (fun _ => ht)
        · exact matches_bad s l AE AW cE cW evs ws w hs h40 hE hW hF t ht
  · have h40' : (40 : Int) < (l.length : Int) := by omega
    clear h40 hE hW hs
    go_enter Try.func3, Try.ntmps3
    go_wp2_with fail
    refine (head_any _).mono ?_
    rintro e w1 ⟨rfl, hb1⟩
    have HB1 := Lib.hid hb1; clear hb1
    go_wp2
    go_ret
    exact ⟨rfl, HB1.out⟩
end Go.Proofs.Ytpmogdddngbneaa
