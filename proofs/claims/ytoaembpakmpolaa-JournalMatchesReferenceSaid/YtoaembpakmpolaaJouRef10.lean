/-
  The walks over the reference's frames: Frame and first. (Written by a program: wip/jou/gen_ref10.py.)
-/
import Derived.Test.YtoaembpakmpolaaJouRef6
import Derived.Test.YtoaembpakmpolaaJouRef7
import Derived.Test.YtoaembpakmpolaaJouCmp
namespace Go.Proofs.Ytoaembpakmpolaa
open Go.RowKit Jou
attribute [local go_sem] ba_get ba_extract ba_append

theorem sub_byte (y : UInt8) : ((255 - y : UInt8).toNat : Int) = 255 - (y.toNat : Int) := by
  have := UInt8.toNat_lt y
  rw [UInt8.toNat_sub_of_le _ _ (by rw [UInt8.le_iff_toNat_le]; show _ ≤ 255; omega)]
  show ((255 - y.toNat : Nat) : Int) = _
  omega
set_option maxHeartbeats 4000000 in
set_option maxRecDepth 100000 in
theorem fframe_any (l : List UInt8) (A : Option Addr) (c : Nat) (w : World) (hA : Rd w A (l.map bV)) (hl : l.length ≤ 3000) :
    Calls Try.prog 39 #[.slice A l.length c] w (OwnB w (frame l)) := by
  obtain ⟨i0, hi0, hz0, hz1, hz2⟩ := info_parts byteInf
  have HA := Lib.hid hA; clear hA
  go_enter Try.func39, Try.ntmps39
  go_wp2_with fail
  refine (flength_any l.length _ (by unfold maxLen; omega)).mono ?_
  rintro e W0 ⟨A3, c3, rfl, ho3, hb3⟩
  rw [lenB_len]
  have HB0 := Lib.hid hb3
  have HA0 := Lib.hid (HA.out.below hb3)
  obtain ⟨bn, on, hA3, hbn, hcn⟩ := (own_rd ho3).get (i := 0) (by simp [lenB])
  subst hA3
  have HO3 : Hid (W0.ownsRow w.heap.size 5 1 (.slice (some ⟨bn, on, none⟩) 2 c3) 2 ((lenB l.length).map bV)) := ho3
  obtain ⟨a0, a1, hab⟩ : ∃ a b, lenB l.length = [a, b] := ⟨_, _, rfl⟩
  rw [hab] at hcn HO3
  have HAB := Lib.hid hab
  have k0 : W0.cell? ⟨bn, on, none⟩ = some (bV a0) := by simpa using hcn 0 _ rfl
  have k1 : W0.cell? ⟨bn, on + 1, none⟩ = some (bV a1) := hcn 1 _ rfl
  have h0 := UInt8.toNat_lt a0
  have h1 := UInt8.toNat_lt a1
  have HKL : Hid ([Value.int .u8 (IntKind.u8.wrap (255 - (a0.toNat : Int))), Value.int .u8 (IntKind.u8.wrap (255 - (a1.toNat : Int)))] = ([255 - a0, 255 - a1] : List UInt8).map bV) := by
    show _ = _
    rw [IntWalk.u8_in _ (by omega), IntWalk.u8_in _ (by omega)]
    simp only [List.map_cons, List.map_nil, bV, sub_byte]
  clear hcn hab ho3 hb3 hbn
  have h2 : (0 : Int) ≤ (a0.toNat : Int) := by omega
  have h3 : (0 : Int) ≤ (a1.toNat : Int) := by omega
  go_wp2_with fail
  go_region_law ((go_must (refine step_app (by rfl) _ _ _ _ (by rfl) w.heap.size 5 i0 _ 1 1 Try.underlying38 hi0 hz0 hz1 hz2 (by rfl) _ 2 _ (by rfl) (HO3.out.drew.alloc _) _ (by rfl) 2 _ (src_rd Try.underlying38 (Rd.new _ [Value.int .u8 (IntKind.u8.wrap (255 - (a0.toNat : Int))), Value.int .u8 (IntKind.u8.wrap (255 - (a1.toNat : Int)))] _) (by rfl) (by simp [Value.oneCell'])) (by unfold maxLen; omega) (by omega) (by have := HB0.out.size; simp; omega) ?_); intro A4 c4 w4 ho hg _; have HN4 := Lib.hid (app_below (b_drew HB0.out |>.alloc HB0.out.size _) (Nat.le_refl _) (HO3.out.drew.alloc _) (Nat.le_refl _) hg); have HO4 := Lib.hid ho; clear ho hg))
  all_goals
    have HO4 : Hid (w4.ownsRow w.heap.size 5 1 (.slice A4 4 c4) 4 (([a0, a1] ++ [255 - a0, 255 - a1] : List UInt8).map bV)) := by
      show World.ownsRow _ _ _ _ _ _ _
      rw [List.map_append, ← HKL.out]
      exact HO4.out
    have HA4 := Lib.hid (HA.out.below HN4.out)
    clear HA0 HO3 HB0 HKL k0 k1
    go_wp2_with (first
      | (go_at_call 68; refine (fsum_any l A c _ HA4.out (by omega)).mono ?_; rintro e w5 ⟨A5, c5, rfl, ho, hb⟩; have HO5 := Lib.hid ho; have HN5 := Lib.hid (bt HN4.out hb); have HO45 := Lib.hid (own_below HO4.out hb); clear ho hb)
      | (at_builtin; refine wpList_app (by rfl) (.tmp 19) (.tmp 21) _ _ (by rfl) w.heap.size 5 i0 _ 1 1 Try.underlying38 hi0 hz0 hz1 hz2 (by rfl) _ 4 _ (by rfl) HO45.out _ (by rfl) 4 ((csum l).map bV) (src_rd Try.underlying38 (own_rd HO5.out) (by rfl) (one_b _)) (by unfold maxLen; omega) (by omega) (by have := HN5.out.size; omega) ?_; intro A6 c6 w6 ho hg _; have HN6 := Lib.hid (app_below HN5.out (Nat.le_refl _) HO45.out (Nat.le_refl _) hg); have HO6 := Lib.hid (own_app ho); have HA6 := Lib.hid (HA.out.below HN6.out); clear ho hg)
      | (at_builtin; refine wpList_app (by rfl) (.tmp 22) (.tmp 23) _ _ (by rfl) w.heap.size 5 i0 _ 1 1 Try.underlying38 hi0 hz0 hz1 hz2 (by rfl) _ (4 + 4) _ (by rfl) HO6.out _ (by rfl) l.length (l.map bV) (src_rd Try.underlying38 HA6.out (List.length_map _) (one_b _)) (by unfold maxLen; omega) (by omega) (by have := HN6.out.size; omega) ?_; intro A7 c7 w7 ho hg _; have HN7 := Lib.hid (app_below HN6.out (Nat.le_refl _) HO6.out (Nat.le_refl _) hg); have HO7 := Lib.hid (own_app ho); clear ho hg)
      | fail)
    go_ret
    exact own_b (Below.refl _ _) HN7.out HO7.out rfl (by unfold frame; rw [HAB.out]; rfl)
/-- What first leaves: the record of the frame, or false. -/
def FirstR (w : World) (j : List UInt8) (A : Option Addr) (e : Ending) (w' : World) : Prop :=
  Below w.heap.size w w' ∧ match framed j with
    | none => ∃ v, e = .returned (.tuple #[v, .bool false])
    | some r => ∃ b off c, A = some ⟨b, off, none⟩ ∧ e = .returned (.tuple #[.slice (some ⟨b, off + 8, none⟩) r.length c, .bool true]) ∧ Rd w' (some ⟨b, off + 8, none⟩) (r.map bV) ∧ r.length ≤ c ∧ c ≤ maxLen
theorem framed_cases (j : List UInt8) (a b : UInt8) (h9 : 9 ≤ j.length) (h0 : j[0]'(by omega) = a) (h1 : j[1]'(by omega) = b) : framed j = if a.toNat * 256 + b.toNat < 1 ∨ 3000 < a.toNat * 256 + b.toNat ∨ j.length < a.toNat * 256 + b.toNat + 8 then none else if frame ((j.drop 8).take (a.toNat * 256 + b.toNat)) = j.take (a.toNat * 256 + b.toNat + 8) then some ((j.drop 8).take (a.toNat * 256 + b.toNat)) else none := by
  have hn : ∀ r, framed j = some r → r.length = a.toNat * 256 + b.toNat := by
    intro r h
    obtain ⟨x1, x2, x3⟩ := (framed_iff j r).1 h
    have e1 : (j.take (r.length + 8)).take 2 = [a, b] := by
      rw [List.take_take, Nat.min_eq_left (by omega)]
      match j, h9 with
      | p :: q :: t, _ =>
        simp only [List.getElem_cons_zero, List.getElem_cons_succ] at h0 h1
        subst h0 h1
        rfl
    have e2 : (frame r).take 2 = lenB r.length := by unfold frame; rw [List.append_assoc, List.append_assoc]; exact List.take_left' rfl
    rw [x3, e2] at e1
    have := (lenB_split _ a b (by omega)).1 e1
    omega
  by_cases hb : a.toNat * 256 + b.toNat < 1 ∨ 3000 < a.toNat * 256 + b.toNat ∨ j.length < a.toNat * 256 + b.toNat + 8
  · rw [if_pos hb]
    cases hf : framed j with
    | none => rfl
    | some r =>
      obtain ⟨x1, x2, x3⟩ := (framed_iff j r).1 hf
      have := hn r hf
      have := congrArg List.length x3
      rw [List.length_take, frame_len8] at this
      omega
  · rw [if_neg hb]
    have hl : ((j.drop 8).take (a.toNat * 256 + b.toNat)).length = a.toNat * 256 + b.toNat := by rw [List.length_take, List.length_drop]; omega
    by_cases he : frame ((j.drop 8).take (a.toNat * 256 + b.toNat)) = j.take (a.toNat * 256 + b.toNat + 8)
    · rw [if_pos he]
      exact (framed_iff j _).2 ⟨by omega, by omega, by rw [hl]; exact he.symm⟩
    · rw [if_neg he]
      cases hf : framed j with
      | none => rfl
      | some r =>
        obtain ⟨x1, x2, x3⟩ := (framed_iff j r).1 hf
        have hr := hn r hf
        refine absurd ?_ he
        have e : r = (j.drop 8).take (a.toNat * 256 + b.toNat) := by
          have h1 := congrArg (List.drop 8) x3
          rw [hr] at h1
          have h2 : (frame r).drop 8 = r := by
            have : (lenB r.length ++ (lenB r.length).map (255 - ·) ++ csum r).length = 8 := rfl
            unfold frame
            exact List.drop_left' this
          rw [h2, List.drop_take, Nat.add_sub_cancel] at h1
          exact h1.symm
        rw [← e, ← x3, hr]
set_option maxHeartbeats 4000000 in
set_option maxRecDepth 100000 in
theorem ffirst_any (j : List UInt8) (A : Option Addr) (c : Nat) (w : World) (hA : Rd w A (j.map bV)) (hc : j.length ≤ c) (hm : c ≤ maxLen) (hj : j.length ≤ 100000) :
    Calls Try.prog 41 #[.slice A j.length c] w (FirstR w j A) := by
  by_cases h9 : 9 ≤ j.length
  case neg =>
    have hn : framed j = none := by
      cases hf : framed j with
      | none => rfl
      | some r => obtain ⟨x1, x2, x3⟩ := (framed_iff j r).1 hf; have := congrArg List.length x3; rw [List.length_take, frame_len8] at this; omega
    have HR : Hid (FirstR w j A (.returned (.tuple #[.slice none 0 0, .bool false])) w) := by show FirstR _ _ _ _ _; unfold FirstR; rw [hn]; exact ⟨Below.refl _ _, _, rfl⟩
    have g1 : (j.length : Int) < 9 := by omega
    clear hn
    go_enter Try.func41, Try.ntmps41
    go_wp2
    go_ret2
    exact HR.out
  obtain ⟨b, off, rfl, hb1, hcc⟩ := hA.get (i := 0) (by rw [List.length_map]; omega)
  have k0 : w.cell? ⟨b, off, none⟩ = some (bV (j[0]'(by omega))) := by simpa using hcc 0 _ (by simp [show 0 < j.length by omega])
  have k1 : w.cell? ⟨b, off + 1, none⟩ = some (bV (j[1]'(by omega))) := hcc 1 _ (by simp [show 1 < j.length by omega])
  obtain ⟨a0, ha0⟩ : ∃ a, j[0]'(by omega) = a := ⟨_, rfl⟩
  obtain ⟨a1, ha1⟩ : ∃ a, j[1]'(by omega) = a := ⟨_, rfl⟩
  have HFC := Lib.hid (framed_cases j a0 a1 h9 ha0 ha1)
  rw [ha0] at k0
  rw [ha1] at k1
  have HA := Lib.hid hA
  have h0 := UInt8.toNat_lt a0
  have h1 := UInt8.toNat_lt a1
  have HC := Lib.hid hc
  have HM := Lib.hid hm
  unfold maxLen at hm
  clear hcc ha0 ha1 hA
  have g0 : ¬ (j.length : Int) < 9 := by omega
  have i0 : (0 : Int) ≤ (a0.toNat : Int) := by omega
  have i1 : (0 : Int) ≤ (a1.toNat : Int) := by omega
  have i2 : (a0.toNat : Int) < 256 := by omega
  have i3 : (a1.toNat : Int) < 256 := by omega
  have i4 : (1 : Int) < (j.length : Int) := by omega
  go_enter Try.func41, Try.ntmps41
  go_wp2
  go_quiet (fail)
  obtain ⟨n, hn⟩ : ∃ n : Nat, n = a0.toNat * 256 + a1.toNat := ⟨_, rfl⟩
  rw [← hn] at HFC
  rw [show (256 * (a0.toNat : Int) + (a1.toNat : Int)) = (n : Int) by omega]
  clear hn h0 h1 i0 i1 i2 i3 k0 k1
  have HBQ : Hid (Below w.heap.size w (w.drewN nq)) := below_drewN (Below.refl _ _) nq
  by_cases hbad : n < 1 ∨ 3000 < n ∨ j.length < n + 8
  · have hf := HFC.out
    rw [if_pos hbad] at hf
    have HR : Hid (FirstR w j (some ⟨b, off, none⟩) (.returned (.tuple #[.slice none 0 0, .bool false])) (w.drewN nq)) := by show FirstR _ _ _ _ _; unfold FirstR; rw [hf]; exact ⟨HBQ.out, _, rfl⟩
    clear hf HFC
    by_cases q1 : n < 1
    · have p1 : (n : Int) < 1 := by omega
      clear hbad
      go_wp2
      go_ret2
      exact HR.out
    have p1 : ¬ (n : Int) < 1 := by omega
    by_cases q2 : 3000 < n
    · have p2 : (3000 : Int) < n := by omega
      clear hbad
      go_wp2
      go_ret2
      exact HR.out
    have p2 : ¬ (3000 : Int) < n := by omega
    have p3 : (j.length : Int) < (n : Int) + 8 := by omega
    clear hbad q1 q2
    go_wp2
    go_ret2
    exact HR.out
  have hf := HFC.out
  rw [if_neg hbad] at hf
  have p1 : ¬ (n : Int) < 1 := by omega
  have p2 : ¬ (3000 : Int) < n := by omega
  have p3 : ¬ (j.length : Int) < (n : Int) + 8 := by omega
  have p4 : (n : Int) + 8 ≤ (c : Int) := by have := HC.out; omega
  obtain ⟨r, hr⟩ : ∃ r, r = (j.drop 8).take n := ⟨_, rfl⟩
  obtain ⟨q, hq⟩ : ∃ q, q = j.take (n + 8) := ⟨_, rfl⟩
  have hrl : r.length = n := by rw [hr, List.length_take, List.length_drop]; omega
  have hql : q.length = n + 8 := by rw [hq, List.length_take]; omega
  rw [← hr, ← hq] at hf
  have HRr : Hid (Rd w (some ⟨b, off + 8, none⟩) (r.map bV)) := by show Rd _ _ _; rw [hr, List.map_take, List.map_drop]; exact (Rd.drop HA.out 8).take n
  have HRq : Hid (Rd w (some ⟨b, off, none⟩) (q.map bV)) := by show Rd _ _ _; rw [hq, List.map_take]; exact HA.out.take _
  clear hr hq HFC HA hbad
  obtain rfl := hrl
  have HQL := Lib.hid hql
  have HFF := Lib.hid hf
  clear hql hf
  have p5 : r.length ≤ 3000 := by omega
  have HCC : Hid (r.length ≤ c - 8 ∧ c - 8 ≤ maxLen) := by have := HC.out; have := HM.out; exact ⟨by omega, by omega⟩
  have p6 : (8 : Int) ≤ (r.length : Int) + 8 := by omega
  have p7 : (0 : Int) ≤ (r.length : Int) + 8 := by omega
  have HBM : Hid (q.length ≤ maxLen) := by show _ ≤ _; rw [HQL.out]; unfold maxLen; omega
  go_wp2
  have p8 : IntKind.i64.wrap ((r.length : Int) + 8) = (r.length : Int) + 8 := IntWalk.i64_in _ (by omega)
  have p9 : ((r.length : Int) + 8).toNat = r.length + 8 := by omega
  go_region_held3 (fun _ => True) (trivial) (first
    | (go_at_call 39; refine (fframe_any r (some ⟨b, off + 8, none⟩) _ _ (HRr.out.drewN (nq + 1)) p5).mono ?_; rintro e w3 ⟨A3, c3, rfl, ho, hb⟩; have HO3 := Lib.hid ho; have HB3 := Lib.hid (bdrN hb); clear ho hb)
    | (go_at_call 18; refine (show Calls Try.prog 18 #[.slice A3 (frame r).length c3, .slice (some ⟨b, off, none⟩) (r.length + 8) c] w3 _ from (by have h := bytes_any (frame r) q A3 (some ⟨b, off, none⟩) c3 c w3 (own_rd HO3.out) (HRq.out.below HB3.out) HBM.out; rw [HQL.out] at h; exact h)).mono ?_; rintro e w4 ⟨rfl, hm⟩)
    | fail)
  obtain ⟨m, rfl⟩ := hm
  clear p8 p9
  go_wp2
  go_ret2
  refine ⟨below_drewN HB3.out m, ?_⟩
  rw [HFF.out]
  by_cases he : frame r = q
  · rw [if_pos he, decide_eq_true he]
    exact ⟨b, off, c - 8, rfl, rfl, (HRr.out.below HB3.out).drewN m, HCC.out.1, HCC.out.2⟩
  · rw [if_neg he, decide_eq_false he]
    exact ⟨_, rfl⟩
end Go.Proofs.Ytoaembpakmpolaa
