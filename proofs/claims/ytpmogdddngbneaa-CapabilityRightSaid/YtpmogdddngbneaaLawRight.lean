/-
  CapabilityRight: the walk.
-/
import Derived.Test.YtpmogdddngbneaaLawMatches
namespace Go.Proofs.Ytpmogdddngbneaa
open Go.RowKit Go.Sort

/-- See with whatever token. -/
def SeeR (w : World) (good : Bool) (e : Ending) (w' : World) : Prop := ∃ A n c, e = .returned (.tuple #[.slice A n c, .int .i64 (if good = true then 0 else 340)]) ∧ (good = false → n = 0) ∧ n ≤ 1000000 ∧ Below w.heap.size w w'
theorem see_r (s t : Int) (l : List UInt8) (AE AW : Option Addr) (cE cW : Nat) (evs : List EvC) (ws : List NsC) (w : World) (hs : I64 s) (hl : l.length ≤ 1000) (hE : Events w AE evs) (hW : Worlds w AW ws) (good : Bool) (hg : decide (t = tok s l) = good) :
    Calls Try.prog 11 #[iV s, iV t, sV l, .slice AE evs.length cE, .slice AW ws.length cW] w (SeeR w good) := by
  cases good with
  | true =>
    obtain rfl : t = tok s l := of_decide_eq_true hg
    exact (see_ok s l AE AW cE cW evs ws w hs hl hE hW).mono fun e w' ⟨A, c, o, he, _, h2, _, h4⟩ => ⟨A, o.length, c, he, fun h => (by cases h), h2, h4⟩
  | false => exact (see_bad s t l AE AW cE cW _ _ w hs hl (of_decide_eq_false hg)).mono fun e w' ⟨he, h4⟩ => ⟨none, 0, 0, he, fun _ => rfl, by omega, h4⟩
theorem dig_tok (s : Int) (l : List UInt8) (A : Option Addr) (c : Nat) (w : World) (h : Rd w A ((toks s l).map iV)) (hs : I64 s) (hl : l.length ≤ 1000) :
    Calls Try.prog 15 #[.slice A (l.length + 1) c] w fun e w' => e = .returned (iV (tok s l)) ∧ w = w' := by
  have := dig_any (toks s l) A c w h (toks_i64 hs l) (by rw [toks_len]; omega)
  rw [toks_len] at this
  exact this
theorem tok_cong {s : Int} {l m : List UInt8} (h : tok s m ≠ tok s l) : l ≠ m := fun e => h (by rw [e])
set_option maxHeartbeats 4000000 in
set_option maxRecDepth 100000 in
theorem right_main (s num : Int) (l m : List UInt8) (AE AW : Option Addr) (cE cW : Nat) (evs : List EvC) (ws : List NsC) (w : World) (hs : I64 s) (hl : l.length ≤ 40) (hm : m.length ≤ 40) (hE : Events0 w AE evs) (hW : Worlds0 w AW ws) (hF : fewB evs ws = true) :
    Calls Try.prog 4 #[iV s, sV l, sV m, iV num, .slice AE evs.length cE, .slice AW ws.length cW] w fun e w' => e = .returned (.bool true) ∧ Below w.heap.size w w' := by
  obtain ⟨f1, f2, f3, f4⟩ := few_all hF
  have CF : Hid (∀ w', Below w.heap.size w w' → Calls Try.prog 9 #[.slice AE evs.length cE, .slice AW ws.length cW] w' fun e w2 => e = .returned (.bool true) ∧ w' = w2) := fun w' hb => by
    have := few_any evs ws AE AW cE cW w' (hE.below hb) (hW.below hb)
    rwa [hF] at this
  have HE := Lib.hid (hE.few f1 f3)
  have HW := Lib.hid (hW.few f2 f4)
  have HI := Lib.hid hs
  have h40 : ¬ (40 : Int) < (l.length : Int) := by omega
  have h41 : ¬ (40 : Int) < (m.length : Int) := by omega
  clear f1 f2 hF hE hW hs
  have key : (l = m) ∨ (l ≠ m ∧ tok s m = tok s l) ∨ (l ≠ m ∧ tok s m ≠ tok s l) := by
    by_cases h1 : l = m
    · exact .inl h1
    · by_cases h2 : tok s m = tok s l
      · exact .inr (.inl ⟨h1, h2⟩)
      · exact .inr (.inr ⟨h1, h2⟩)
  by_cases hn : num = tok s l
  all_goals rcases key with hk | ⟨hk, hg⟩ | ⟨hk, hg⟩
  all_goals
    first
    | (have hn1 : (num == tok s l) = true := by simpa using hn)
    | (have hn1 : (num == tok s l) = false := by simpa using hn)
    first
    | (have hg : tok s m = tok s l := (by rw [show l = m from hk]); have hg1 : (tok s l == tok s m) = true := (by simpa using hg.symm); have HK := Lib.hid hk; clear hk)
    | (have hg1 : (tok s l == tok s m) = true := by simpa using hg.symm)
    | (have hg1 : (tok s l == tok s m) = false := by simpa using fun e => hg (Eq.symm e))
    first
    | (have HK := Lib.hid hk; clear hk)
    | skip
    have HG := Lib.hid hg
    have HN := Lib.hid hn
    clear hg hn
    go_enter Try.func4, Try.ntmps4
    go_wp2_with fail
    refine (head_any _).mono ?_
    rintro e w1 ⟨rfl, hb1⟩
    have HB1 := Lib.hid hb1; clear hb1
    go_wp2_with fail
    refine (CF.out _ HB1.out).mono ?_
    rintro e w2 ⟨rfl, rfl⟩
    go_wp2_with fail
    refine (token_any s l _ HI.out (by omega)).mono ?_
    rintro e w2 ⟨rfl, hb2⟩
    have HB2 := Lib.hid (bt HB1.out hb2); clear hb2
    go_wp2_with fail
    refine (see_r s _ l AE AW cE cW evs ws _ HI.out (by omega) (HE.out.below HB2.out) (HW.out.below HB2.out) true (by simp)).mono ?_
    rintro e w3 ⟨A1, n1, c1, rfl, q1, q2, hb2⟩
    have HB3 := Lib.hid (bt HB2.out hb2); clear hb2 q1
    go_wp2_with fail
    first
    | (refine (see_r s num l AE AW cE cW evs ws _ HI.out (by omega) (HE.out.below HB3.out) (HW.out.below HB3.out) true (decide_eq_true HN.out)).mono ?_; rintro e w4 ⟨A2, n2, c2, rfl, q1, q2, hb2⟩; clear q1)
    | (refine (see_bad s num l AE AW cE cW _ _ _ HI.out (by omega) HN.out).mono ?_; rintro e w4 ⟨rfl, hb2⟩)
    have HB4 := Lib.hid (bt HB3.out hb2); clear hb2
    go_wp2_with fail
    refine (token_any s m _ HI.out (by omega)).mono ?_
    rintro e w5 ⟨rfl, hb2⟩
    have HB5 := Lib.hid (bt HB4.out hb2); clear hb2
    go_wp2_with fail
    first
    | (refine (see_r s (tok s m) l AE AW cE cW evs ws _ HI.out (by omega) (HE.out.below HB5.out) (HW.out.below HB5.out) true (decide_eq_true HG.out)).mono ?_; rintro e w6 ⟨A3, n3, c3, rfl, q1, q3, hb2⟩; clear q1)
    | (refine (see_bad s (tok s m) l AE AW cE cW _ _ _ HI.out (by omega) HG.out).mono ?_; rintro e w6 ⟨rfl, hb2⟩)
    have HB6 := Lib.hid (bt HB5.out hb2); clear hb2
    go_wp2_with fail
    refine (numbers_any s l _ (by omega)).mono ?_
    rintro e w7 ⟨A4, c4, rfl, hr, hb2⟩
    have HB7 := Lib.hid (bt HB6.out hb2); clear hb2
    have CD := Lib.hid (dig_tok s l A4 c4 w7 hr HI.out (by omega)); clear hr
    go_wp2_with fail
    refine CD.out.mono ?_
    rintro e w7' ⟨rfl, rfl⟩
    go_wp2_with fail
    refine (numbers_any s m _ (by omega)).mono ?_
    rintro e w8 ⟨A5, c5, rfl, hr, hb2⟩
    have HB8 := Lib.hid (bt HB7.out hb2); clear hb2
    have CD2 := Lib.hid (dig_tok s m A5 c5 w8 hr HI.out (by omega)); clear hr
    go_wp2_with fail
    refine CD2.out.mono ?_
    rintro e w8' ⟨rfl, rfl⟩
    go_wp2
    all_goals first
      | (exact absurd (by assumption) HK.out)
      | (exact absurd HK.out (by assumption))
      | (go_ret; exact ⟨by first | rfl | (simp; done) | (simp; exact HK.out), HB8.out⟩)
set_option maxHeartbeats 2000000 in
set_option maxRecDepth 100000 in
theorem right_any (s num : Int) (l m : List UInt8) (AE AW : Option Addr) (cE cW : Nat) (evs : List EvC) (ws : List NsC) (w : World) (hs : I64 s) (hl : Len l) (hm : Len m) (hE : Events0 w AE evs) (hW : Worlds0 w AW ws) :
    Calls Try.prog 4 #[iV s, sV l, sV m, iV num, .slice AE evs.length cE, .slice AW ws.length cW] w fun e w' => e = .returned (.bool true) ∧ Below w.heap.size w w' := by
  by_cases h40 : l.length ≤ 40
  · by_cases h41 : m.length ≤ 40
    · cases hF : fewB evs ws
      · have CF : Hid (∀ w', Below w.heap.size w w' → Calls Try.prog 9 #[.slice AE evs.length cE, .slice AW ws.length cW] w' fun e w2 => e = .returned (.bool false) ∧ w' = w2) := fun w' hb => by
          have := few_any evs ws AE AW cE cW w' (hE.below hb) (hW.below hb)
          rwa [hF] at this
        have h40' : ¬ (40 : Int) < (l.length : Int) := by omega
        have h41' : ¬ (40 : Int) < (m.length : Int) := by omega
        clear hF hE hW h40 h41
        go_enter Try.func4, Try.ntmps4
        go_wp2_with fail
        refine (head_any _).mono ?_
        rintro e w1 ⟨rfl, hb1⟩
        have HB1 := Lib.hid hb1; clear hb1
        go_wp2_with fail
        refine (CF.out _ HB1.out).mono ?_
        rintro e w2 ⟨rfl, rfl⟩
        go_wp2
        go_ret
        exact ⟨rfl, HB1.out⟩
      · exact right_main s num l m AE AW cE cW evs ws w hs h40 h41 hE hW hF
    · have h40' : ¬ (40 : Int) < (l.length : Int) := by omega
      have h41' : (40 : Int) < (m.length : Int) := by omega
      clear h40 h41 hE hW hs
      go_enter Try.func4, Try.ntmps4
      go_wp2_with fail
      refine (head_any _).mono ?_
      rintro e w1 ⟨rfl, hb1⟩
      have HB1 := Lib.hid hb1; clear hb1
      go_wp2
      go_ret
      exact ⟨rfl, HB1.out⟩
  · have h40' : (40 : Int) < (l.length : Int) := by omega
    clear h40 hE hW hs
    go_enter Try.func4, Try.ntmps4
    go_wp2_with fail
    refine (head_any _).mono ?_
    rintro e w1 ⟨rfl, hb1⟩
    have HB1 := Lib.hid hb1; clear hb1
    go_wp2
    go_ret
    exact ⟨rfl, HB1.out⟩
end Go.Proofs.Ytpmogdddngbneaa
