/-
  The walks over the reference's frames: Records and Append. (Written by a program: wip/jou/gen_ref11.py.)
-/
import Derived.Test.YtoaembpakmpolaaJouRef10
import Derived.Test.YtoaembpakmpolaaJouRec
namespace Go.Proofs.Ytoaembpakmpolaa
open Go.RowKit Jou
attribute [local go_sem] ba_get ba_extract ba_append

/-- What Records of the reference leaves: slices of the journal's own bytes. -/
def FRecR (w : World) (j : List UInt8) (e : Ending) (w' : World) : Prop :=
  ∃ (rows : List Sl) (A : Option Addr) (c : Nat), rows.map (·.2.2) = recs j ∧ e = .returned (.tuple #[.slice A rows.length c, iV (offs (recs j) (recs j).length)]) ∧ w'.ownsRow w.heap.size 38 1 (.slice A rows.length c) rows.length (rows.map slV) ∧
    (∀ r ∈ rows, Rd w r.1 (r.2.2.map bV) ∧ Low w.heap.size r.1 ∧ r.2.2.length ≤ r.2.1 ∧ r.2.1 ≤ maxLen) ∧ Below w.heap.size w w'
set_option maxHeartbeats 8000000 in
set_option maxRecDepth 100000 in
theorem frecords_any (j : List UInt8) (A : Option Addr) (c : Nat) (w : World) (hA : Rd w A (j.map bV)) (hc : j.length ≤ c) (hm : c ≤ maxLen) (hj : j.length ≤ 90000) :
    Calls Try.prog 17 #[.slice A j.length c] w (FRecR w j) := by
  obtain ⟨i0, hi0, hz0, hz1, hz2⟩ := info_parts slInfo
  have HA := Lib.hid hA; clear hA
  have HC := Lib.hid hc
  have HM := Lib.hid hm
  unfold maxLen at hm
  have hm0 := recs_le j
  go_enter Try.func17, Try.ntmps17
  go_wp2
  go_loopw [4, 5] (fun v i wr => ∃ rows : List Sl, rows.length ≤ (recs j).length ∧ Hid (rows.map (·.2.2) = (recs j).take rows.length) ∧ i = iV (offs (recs j) rows.length) ∧ Hid (∀ r ∈ rows, Rd w r.1 (r.2.2.map bV) ∧ Low w.heap.size r.1 ∧ r.2.2.length ≤ r.2.1 ∧ r.2.1 ≤ maxLen) ∧ Hid (wr.ownsRow w.heap.size 38 1 v rows.length (rows.map slV)) ∧ Hid (Below w.heap.size w wr)) (fun v _ _ => 500 - (match v with | .slice _ n _ => n | _ => 0))
  case atStart =>
    exact ⟨[], Nat.zero_le _, rfl, rfl, fun r hr => (by cases hr), own_newL w [] 38 (Nat.zero_le _), ba _ _⟩
  case round =>
    obtain ⟨rows, hrl, HROWS, rfl, HRD, HO, HB⟩ := hrel
    obtain ⟨A2, c2, rfl⟩ := own_form HO.out
    have hof := offs_le j rows.length hrl
    have HOF := Lib.hid hof
    obtain ⟨at_, hat⟩ : ∃ a, a = offs (recs j) rows.length := ⟨_, rfl⟩
    rw [← hat] at hof ⊢
    have HAT := Lib.hid hat; clear hat
    by_cases h5 : rows.length < 500
    · have g1 : (rows.length : Int) < 500 := by omega
      have g2 : (0 : Int) ≤ (at_ : Int) := by omega
      have g3 : (at_ : Int) ≤ (j.length : Int) := by omega
      have g4 : (j.length : Int) ≤ (c : Int) := by omega
      have HFI : Hid (∀ (A' : Option Addr) (c' : Nat), Rd wr A' ((j.drop at_).map bV) → j.length - at_ ≤ c' → c' ≤ maxLen → Calls Try.prog 41 #[.slice A' (j.length - at_) c'] wr (FirstR wr (j.drop at_) A')) := fun A' c' h1 h2 h3 => by
        have := ffirst_any (j.drop at_) A' c' wr h1 (by rw [List.length_drop]; omega) h3 (by rw [List.length_drop]; omega)
        rwa [List.length_drop] at this
      have HNO : Hid (framed (j.drop at_) = none → rows.length = (recs j).length) := fun h => by
        rcases Nat.lt_or_ge rows.length (recs j).length with h1 | h1
        · have := recs_at j rows.length h1
          rw [← HAT.out, h] at this
          cases this
        · omega
      by_cases hcap : at_ = c
      · subst hcap
        have hnil : j.drop at_ = [] := List.drop_eq_nil_of_le (by have := HC.out; omega)
        have HEQ := Lib.hid (HNO.out (by rw [hnil]; rfl))
        have HF0 : Hid (Calls Try.prog 41 #[.slice A 0 0] wr (FirstR wr [] A)) := ffirst_any [] A 0 wr (Rd.nil _ _) (Nat.zero_le _) (Nat.zero_le _) (Nat.zero_le _)
        clear hnil HFI
        go_wp2_with fail
        refine (HF0.out).mono ?_
        rintro e w3 ⟨hb3, hf⟩
        obtain ⟨v, rfl⟩ := hf
        have HB3 := Lib.hid hb3; clear hb3
        go_wp2
        go_ret2
        obtain rfl := HAT.out
        refine ⟨rows, A2, c2, ?_, ?_, own_below HO.out HB3.out, HRD.out, bt HB.out HB3.out⟩
        · rw [HROWS.out, HEQ.out, List.take_length]
        · rw [← HEQ.out]; rfl
      have hne : ¬ (c : Int) = (at_ : Int) := by omega
      have hne2 : ¬ c = at_ := by omega
      go_wp2_with fail
      refine (HFI.out _ (c - at_) ((HA.out.below HB.out).dropA at_ |> fun h => by rw [List.map_drop]; exact h) (by have := HC.out; omega) (by have := HM.out; omega)).mono ?_
      rintro e w3 ⟨hb3, hf⟩
      have HB3 := Lib.hid hb3; clear hb3
      cases hfr : framed (j.drop at_) with
      | none =>
        rw [hfr] at hf
        obtain ⟨v, rfl⟩ := hf
        have HEQ := Lib.hid (HNO.out hfr)
        clear hfr
        go_wp2
        go_ret2
        obtain rfl := HAT.out
        refine ⟨rows, A2, c2, ?_, ?_, own_below HO.out HB3.out, HRD.out, bt HB.out HB3.out⟩
        · rw [HROWS.out, HEQ.out, List.take_length]
        · rw [← HEQ.out]; rfl
      | some r =>
        rw [hfr] at hf
        obtain ⟨b, off, c', hAm, rfl, hrd, hc1, hc2⟩ := hf
        have HRW : Hid (Rd w (some ⟨b, off + 8, none⟩) (r.map bV)) := by
          show Rd _ _ _
          have h1 := HA.out.dropA at_
          rw [hAm] at h1
          have h2 := (Rd.drop h1 8).take r.length
          rw [← List.map_drop, ← List.map_drop, ← List.map_take, ← (framed_take hfr).1] at h2
          exact h2
        have hlt : rows.length < (recs j).length := by
          rcases Nat.lt_or_ge rows.length (recs j).length with h1 | h1
          · exact h1
          · have h2 := recs_end j (by omega)
            rw [show (recs j).length = rows.length by omega, ← HAT.out, hfr] at h2
            cases h2
        have hget : (recs j)[rows.length] = r := by
          have h2 := recs_at j rows.length hlt
          rw [← HAT.out, hfr] at h2
          exact (Option.some.inj h2).symm
        have HGET := Lib.hid hget
        have hrl2 := (framed_take hfr).2.2.2
        have hrl3 := (framed_take hfr).2.2.1
        clear hrd hfr hget hAm
        go_wp2_with (first
          | (at_builtin; go_must (refine wpList_app (by rfl) _ _ _ _ (by rfl) w.heap.size 38 i0 _ 1 24 Try.underlying46 hi0 hz0 hz1 hz2 (by rfl) _ rows.length _ (by rfl) ((own_below HO.out HB3.out).alloc _) _ (by rfl) 1 [.slice (some ⟨b, off + 8, none⟩) r.length c'] (src_rd Try.underlying46 (Rd.new w3 [.slice (some ⟨b, off + 8, none⟩) r.length c'] _) rfl (by simp [Value.oneCell'])) (by unfold maxLen; omega) (by omega) (by have := HB.out.size; have := HB3.out.size; simp; omega) ?_); intro A4 c4 w4 ho hg _; have HN4 := Lib.hid (app_below ((bt HB.out HB3.out).alloc (bt HB.out HB3.out).size _) (Nat.le_refl _) ((own_below HO.out HB3.out).alloc _) (Nat.le_refl _) hg); have HO4 := Lib.hid ho; clear ho hg)
          | fail)
        go_roundw
        case rel =>
          have ho := offs_succ (recs j) rows.length hlt
          rw [HGET.out, ← HAT.out] at ho
          refine ⟨rows ++ [(some ⟨b, off + 8, none⟩, c', r)], by rw [List.length_append]; exact hlt, ?_, ?_, ?_, ?_, HN4⟩
          · show _ = _
            rw [List.length_append, List.map_append, HROWS.out]
            show _ = (recs j).take (rows.length + 1)
            rw [List.take_succ_eq_append_getElem hlt, HGET.out]
            rfl
          · rw [List.length_append]
            show _ = iV (offs (recs j) (rows.length + 1))
            rw [ho]
            go_num
          · intro r' hr'
            rcases List.mem_append.1 hr' with h | h
            · exact HRD.out r' h
            · rw [List.mem_singleton.1 h]
              refine ⟨HRW.out, fun a ha => ?_, hc1, hc2⟩
              cases ha
              rcases HRW.out with h0 | ⟨b', off', he, hb', -⟩
              · have := congrArg List.length h0
                rw [List.length_map, List.length_nil] at this
                omega
              · cases he; exact hb'
          · show World.ownsRow _ _ _ _ _ _ _
            rw [List.length_append, List.map_append]
            exact HO4.out
        case measure => simp; omega
    · have HEQ : Hid (rows.length = (recs j).length) := by show _ = _; omega
      have g1 : ¬ (rows.length : Int) < 500 := by omega
      go_wp2
      go_ret2
      obtain rfl := HAT.out
      refine ⟨rows, A2, c2, ?_, ?_, HO.out, HRD.out, HB.out⟩
      · rw [HROWS.out, HEQ.out, List.take_length]
      · rw [← HEQ.out]; rfl
theorem own_e {w w' : World} {A : Option Addr} {n c : Nat} {l m : List UInt8} {x : Int} (hb : Below w.heap.size w w') (h : w'.ownsRow w.heap.size 5 1 (.slice A n c) n (l.map bV)) {e : Ending} (he : e = .returned (.tuple #[.slice A n c, iV x])) (hm : m = l) : OwnE w (m, x) e w' := by
  subst hm
  obtain rfl := own_len h
  exact ⟨A, c, he, h, hb⟩
set_option maxHeartbeats 8000000 in
set_option maxRecDepth 100000 in
theorem fappend_any (j b : List UInt8) (A B : Option Addr) (c d : Nat) (w : World) (hA : Rd w A (j.map bV)) (hB : Rd w B (b.map bV)) (hc : j.length ≤ c) (hm : c ≤ maxLen) (hj : j.length ≤ 90000) (hb : b.length ≤ maxLen) :
    Calls Try.prog 15 #[.slice A j.length c, .slice B b.length d] w (OwnE w (appendR j b)) := by
  obtain ⟨i0, hi0, hz0, hz1, hz2⟩ := info_parts byteInf
  have HM := Lib.hid hm
  unfold maxLen at hb hm
  by_cases hbad : b.length < 1 ∨ 3000 < b.length
  · have HR : Hid (appendR j b = ([], 1)) := by show _ = _; unfold appendR; rw [if_pos hbad]
    have HO : Hid (OwnE w ([], 1) (.returned (.tuple #[.slice none 0 0, iV 1])) w) := ⟨none, 0, rfl, World.ownsRow_nil _ _ _ _, Below.refl _ _⟩
    rcases hbad with h | h
    · have g1 : (b.length : Int) < 1 := by omega
      clear h hA hB
      go_enter Try.func15, Try.ntmps15
      go_wp2
      go_ret2
      rw [HR.out]
      exact HO.out
    · have g1 : ¬ (b.length : Int) < 1 := by omega
      have g2 : (3000 : Int) < (b.length : Int) := by omega
      clear h hA hB
      go_enter Try.func15, Try.ntmps15
      go_wp2
      go_ret2
      rw [HR.out]
      exact HO.out
  have hap : appendR j b = if 500 ≤ (recs j).length then ([], 2) else (j.take (offs (recs j) (recs j).length) ++ frame b, 0) := by unfold appendR; rw [if_neg hbad]
  have HAP := Lib.hid hap; clear hap
  have g1 : ¬ (b.length : Int) < 1 := by omega
  have g2 : ¬ (3000 : Int) < (b.length : Int) := by omega
  have g3 : b.length ≤ 3000 := by omega
  clear hbad
  have HA := Lib.hid hA; clear hA
  have HB := Lib.hid hB; clear hB
  go_enter Try.func15, Try.ntmps15
  go_wp2_with fail
  refine (frecords_any j A c _ HA.out hc HM.out hj).mono ?_
  rintro e w1 ⟨rows, A1, c1, hrows, rfl, -, -, hb1⟩
  have HB1 := Lib.hid hb1
  have hlen : rows.length = (recs j).length := by rw [← hrows, List.length_map]
  have hof := offs_le j (recs j).length (Nat.le_refl _)
  obtain ⟨n, hn⟩ : ∃ n, n = offs (recs j) (recs j).length := ⟨_, rfl⟩
  rw [← hn] at hof ⊢
  rw [← hn, ← hlen] at HAP
  clear hrows hlen hb1 hn
  by_cases h5 : 500 ≤ rows.length
  · have g4 : (500 : Int) ≤ (rows.length : Int) := by omega
    have hap := HAP.out
    rw [if_pos h5] at hap
    have HR := Lib.hid hap
    clear hap HAP
    go_wp2
    go_ret2
    rw [HR.out]
    exact ⟨none, 0, rfl, World.ownsRow_nil _ _ _ _, HB1.out⟩
  have g4 : ¬ (500 : Int) ≤ (rows.length : Int) := by omega
  have hap := HAP.out
  rw [if_neg h5] at hap
  have HR := Lib.hid hap
  clear hap HAP
  have g5 : (0 : Int) ≤ (n : Int) := by omega
  have g6 : (n : Int) ≤ (c : Int) := by omega
  have HO2 : Hid ((w1.alloc (.cells #[] 5)).ownsRow w.heap.size 5 1 (.slice (some ⟨w1.heap.size, 0, none⟩) 0 0) 0 (([] : List UInt8).map bV)) := own_base (own_newL w1 [] 5 (Nat.zero_le _)) HB1.out.size
  have HB2 : Hid (Below w.heap.size w (w1.alloc (.cells #[] 5))) := HB1.out.alloc HB1.out.size _
  have HA2 : Hid (Rd (w1.alloc (.cells #[] 5)) A ((j.take n).map bV)) := by show Rd _ _ _; rw [List.map_take]; exact (HA.out.below HB2.out).take n
  have HTN : Hid ((j.take n).length = n) := by show _ = _; rw [List.length_take]; omega
  have hfl := frame_len8 b
  have HFL := Lib.hid hfl; clear hfl
  go_wp2_with (first
    | (at_builtin; refine wpList_app (by rfl) (.tmp 24) (.tmp 27) _ _ (by rfl) w.heap.size 5 i0 _ 1 1 Try.underlying38 hi0 hz0 hz1 hz2 (by rfl) _ 0 _ (by rfl) HO2.out _ (by rfl) n ((j.take n).map bV) (src_rd Try.underlying38 HA2.out ((List.length_map _).trans HTN.out) (one_b _)) (by unfold maxLen; omega) (by omega) HB2.out.size ?_; intro A4 c4 w4 ho hg _; have HN4 := Lib.hid (app_below HB2.out (Nat.le_refl _) HO2.out (Nat.le_refl _) hg); rw [Nat.zero_add] at ho; have HO4 := Lib.hid (own_app ho); have HBB := Lib.hid (HB.out.below HN4.out); clear ho hg)
    | (go_at_call 39; refine (fframe_any b B d _ HBB.out g3).mono ?_; rintro e w5 ⟨A5, c5, rfl, ho, hb⟩; have HO5 := Lib.hid ho; have HN5 := Lib.hid (bt HN4.out hb); have HO45 := Lib.hid (own_below HO4.out hb); clear ho hb)
    | (at_builtin; refine wpList_app (by rfl) (.tmp 28) (.tmp 30) _ _ (by rfl) w.heap.size 5 i0 _ 1 1 Try.underlying38 hi0 hz0 hz1 hz2 (by rfl) _ n _ (by rfl) HO45.out _ (by rfl) (frame b).length ((frame b).map bV) (src_rd Try.underlying38 (own_rd HO5.out) (List.length_map _) (one_b _)) (by have := HFL.out; unfold maxLen; omega) (by have := HFL.out; omega) HN5.out.size ?_; intro A6 c6 w6 ho hg _; have HN6 := Lib.hid (app_below HN5.out (Nat.le_refl _) HO45.out (Nat.le_refl _) hg); have HO6 := Lib.hid (own_app ho); clear ho hg)
    | fail)
  go_ret2
  rw [HR.out]
  exact own_e HN6.out HO6.out rfl rfl
end Go.Proofs.Ytoaembpakmpolaa
