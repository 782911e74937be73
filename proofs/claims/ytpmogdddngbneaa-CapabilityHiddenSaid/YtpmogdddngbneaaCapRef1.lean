/-
  The reference: digests, tokens, what stays.
-/
import Derived.Test.YtpmogdddngbneaaCapSee
namespace Go.Proofs.Ytpmogdddngbneaa
open Go.RowKit Go.Sort
attribute [local go_sem] ba_get ba_extract ba_append

theorem modulus_any (w : World) : Calls Try.prog 28 #[] w fun e w' => e = .returned (iV 2147483647) ∧ w = w' := by
  go_enter Try.func28, Try.ntmps28
  go_wp2
  go_ret
  exact ⟨rfl, rfl⟩
theorem drew_more {w wr : World} (h : ∃ q, wr = w.drewN q) (n : Nat) : ∃ q, wr.drewN n = w.drewN q := by
  obtain ⟨q, rfl⟩ := h
  exact ⟨q + n, by simp [World.drewN, Nat.add_assoc]⟩
set_option maxHeartbeats 2000000 in
set_option maxRecDepth 100000 in
theorem rsum_any (ns : List Int) (A : Option Addr) (c : Nat) (w : World) (hA : Rd w A (ns.map iV)) (hn : ∀ n ∈ ns, I64 n) (hl : ns.length ≤ 1000000) :
    Calls Try.prog 22 #[.slice A ns.length c] w fun e w' => e = .returned (iV (dsum ns)) ∧ ∃ q, w' = w.drewN q := by
  have HN := Lib.hid hn; clear hn
  have HA := Lib.hid hA; clear hA
  go_enter Try.func22, Try.ntmps22
  go_wp2
  go_loopw [3, 4] (fun h i wr => Hid (∃ q, wr = w.drewN q) ∧ ∃ (k : Nat) (x : Int), k ≤ ns.length ∧ i = iV k ∧ h = iV x ∧ 0 ≤ x ∧ x < 2147483647 ∧ Hid ((ns.drop k).foldl dstep x = dsum ns)) (fun _ i _ => ns.length - (intOf i).toNat)
  case atStart => exact ⟨⟨0, rfl⟩, 0, 7, Nat.zero_le _, rfl, rfl, by decide, by decide, rfl⟩
  case round =>
    obtain ⟨HQ, k, x, hk, rfl, rfl, hx0, hx1, HR⟩ := hrel
    by_cases hlt : k < ns.length
    · have hc := HA.out.get (i := k) (by simpa using hlt)
      obtain ⟨b, off, rfl, hb1, hc⟩ := hc
      have k1 : wr.cell? ⟨b, off + k, none⟩ = some (iV ns[k]) := by
        obtain ⟨q, rfl⟩ := HQ.out
        exact hc k _ (by simp [hlt])
      clear hc
      obtain ⟨q1, q2⟩ := tmod_bounds ns[k]
      have i1 : (0 : Int) ≤ (k : Int) := by omega
      have i2 : (k : Int) < (ns.length : Int) := by omega
      have HS : Hid ((ns.drop (k+1)).foldl dstep (dstep x ns[k]) = dsum ns) := by
        show _ = _
        rw [← HR.out, List.drop_eq_getElem_cons hlt]; rfl
      generalize hnk : ns[k] = n at *
      have HE := Lib.hid hnk; clear hnk
      go_wp2
      go_quiet ((go_at_call 28; first | exact quiet_left (modulus_any _) | exact quiet_add_left (modulus_any _) | exact Calls.quiet_of_same (modulus_any _)))
      go_wp2_with (go_at_call 28; refine (modulus_any _).mono ?_; rintro e w3 ⟨rfl, rfl⟩)
      · go_roundw
        case rel =>
          refine ⟨drew_more HQ.out _, k + 1, dstep x n, by omega, by go_num, ?_, (dstep_lt x n).1, (dstep_lt x n).2, HS⟩
          rw [dstep_neg (by assumption)]
        case measure => simp [intOf]; omega
      · go_roundw
        case rel =>
          refine ⟨drew_more HQ.out _, k + 1, dstep x n, by omega, by go_num, ?_, (dstep_lt x n).1, (dstep_lt x n).2, HS⟩
          rw [dstep_pos (by assumption)]
        case measure => simp [intOf]; omega
    · obtain rfl : k = ns.length := by omega
      go_wp2
      go_ret
      have := HR.out
      rw [List.drop_length] at this
      exact ⟨by rw [← this]; rfl, HQ.out⟩
set_option maxHeartbeats 4000000 in
set_option maxRecDepth 100000 in
theorem numbers_any (s : Int) (l : List UInt8) (w : World) (hl : l.length ≤ 1000) :
    Calls Try.prog 16 #[iV s, sV l] w fun e w' => ∃ A c, e = .returned (.slice A (l.length + 1) c) ∧ Rd w' A ((toks s l).map iV) ∧ Below w.heap.size w w' := by
  obtain ⟨i0, hi0, hz0, hz1, hz2⟩ := info_parts intInf
  go_enter Try.func16, Try.ntmps16
  go_wp2
  go_loopw [5, 6] (fun v i wr => ∃ k : Nat, k ≤ l.length ∧ i = iV k ∧ Hid (wr.ownsRow w.heap.size 3 1 v (k + 1) ((toks s (l.take k)).map iV)) ∧ Hid (Below w.heap.size w wr)) (fun _ i _ => l.length - (intOf i).toNat)
  case atStart =>
    refine ⟨0, Nat.zero_le _, rfl, ?_, ba w _⟩
    exact ⟨rfl, .inr ⟨w.heap.size, 1, _, rfl, Nat.le_refl _, heap_alloc_new w _, Nat.le_refl _, by decide, rfl, rfl⟩⟩
  case round =>
    obtain ⟨k, hk, rfl, HO, HB⟩ := hrel
    obtain ⟨A3, c3, rfl⟩ := own_form HO.out
    by_cases hlt : k < l.length
    · have i1 : (0 : Int) ≤ (k : Int) := by omega
      have i2 : (k : Int) < (l.length : Int) := by omega
      have i3 : ((l[k]).toNat : Int) < 256 := by have := l[k].toNat_lt; omega
      have i4 : (0 : Int) ≤ ((l[k]).toNat : Int) := by omega
      go_wp2_with (at_builtin; go_must (refine wpList_app (by rfl) _ _ _ _ (by rfl) w.heap.size 3 i0 _ 1 8 Try.underlying34 hi0 hz0 hz1 hz2 (by rfl) _ (k + 1) _ (by rfl) (HO.out.alloc _) _ (by rfl) 1 ([((l[k]).toNat : Int)].map iV) (src_rd Try.underlying34 (Rd.new wr _ _) (by rfl) (one_i _)) (by unfold maxLen; omega) (by omega) (by have := HB.out.size; simp; omega) ?_); intro A4 c4 w4 hown4 hgrow4 _; have HO4 := Lib.hid hown4; clear hown4; have HG4 := Lib.hid hgrow4; clear hgrow4)
      go_roundw
      case rel =>
        refine ⟨k + 1, by omega, by go_num, ?_, ?_⟩
        · show World.ownsRow _ _ _ _ _ _ _
          rw [toks_take s l k hlt, List.map_append]; exact HO4.out
        · exact app_below (HB.out.trans (ba wr _ |>.mono HB.out.size)) (Nat.le_refl _) (HO.out.alloc _) (Nat.le_refl _) HG4.out
      case measure => simp [intOf]; omega
    · obtain rfl : k = l.length := by omega
      rw [List.take_length] at HO
      go_wp2
      go_ret
      exact ⟨A3, c3, rfl, own_rd HO.out, HB.out⟩
theorem below_dq {w w' : World} (h : ∃ q, w' = w.drewN q) : Below w.heap.size w w' := by
  obtain ⟨q, rfl⟩ := h
  exact below_drewN (Below.refl _ _) q
set_option maxHeartbeats 1000000 in
theorem rtoken_any (s : Int) (l : List UInt8) (w : World) (hs : I64 s) (hl : l.length ≤ 1000) :
    Calls Try.prog 10 #[iV s, sV l] w fun e w' => e = .returned (iV (tok s l)) ∧ Below w.heap.size w w' := by
  have CN := Lib.hid (numbers_any s l w hl)
  have HI := Lib.hid hs; clear hs
  go_enter Try.func10, Try.ntmps10
  go_wp2_with fail
  refine CN.out.mono ?_
  rintro e w1 ⟨A, c, rfl, hr, hb⟩
  have CS := Lib.hid (rsum_any (toks s l) A c w1 hr (toks_i64 HI.out l) (by rw [toks_len]; omega))
  rw [toks_len] at CS
  have HB := Lib.hid hb
  clear hr hb CN
  go_wp2_with fail
  refine CS.out.mono ?_
  rintro e w2 ⟨rfl, hq⟩
  have HB2 := Lib.hid (bt HB.out (below_dq hq))
  clear hq
  go_wp2
  go_ret
  exact ⟨rfl, HB2.out⟩
set_option maxHeartbeats 1000000 in
theorem in_any (ns : List Int) (n : Int) (A : Option Addr) (c : Nat) (w : World) (hA : Rd w A (ns.map iV)) (hl : ns.length ≤ 1000000) :
    Calls Try.prog 35 #[.slice A ns.length c, iV n] w fun e w' => e = .returned (.bool (decide (n ∈ ns))) ∧ w = w' := by
  have HA := Lib.hid hA; clear hA
  go_enter Try.func35, Try.ntmps35
  go_wp2
  go_loopw [5] (fun i wr => w = wr ∧ ∃ k : Nat, k ≤ ns.length ∧ i = iV k ∧ Hid (n ∉ ns.take k)) (fun i _ => ns.length - (intOf i).toNat)
  case atStart => exact ⟨rfl, 0, Nat.zero_le _, rfl, by simp [Hid]⟩
  case round =>
    obtain ⟨rfl, k, hk, rfl, HP⟩ := hrel
    by_cases hlt : k < ns.length
    · obtain ⟨b, off, rfl, hb1, hc⟩ := HA.out.get (i := k) (by simpa using hlt)
      have k1 : w.cell? ⟨b, off + k, none⟩ = some (iV ns[k]) := hc k _ (by simp [hlt])
      clear hc
      have i1 : (0 : Int) ≤ (k : Int) := by omega
      have i2 : (k : Int) < (ns.length : Int) := by omega
      have HT : Hid (ns.take (k + 1) = ns.take k ++ [ns[k]]) := List.take_succ_eq_append_getElem hlt
      have HM : Hid (ns[k] ∈ ns) := List.getElem_mem hlt
      generalize ns[k] = m at *
      by_cases he : m = n
      · subst he
        go_wp2
        go_ret
        exact ⟨by rw [decide_eq_true HM.out]; rfl, rfl⟩
      · have he' : (m == n) = false := by simpa using he
        go_wp2
        go_roundw
        case rel => exact ⟨trivial, k + 1, by omega, by go_num, by
          show _ ∉ _
          rw [HT.out]
          intro h
          rcases List.mem_append.1 h with h | h
          · exact HP.out h
          · exact he (List.mem_singleton.1 h).symm⟩
        case measure => simp [intOf]; omega
    · obtain rfl : k = ns.length := by omega
      rw [List.take_length] at HP
      go_wp2
      go_ret
      exact ⟨by rw [decide_eq_false HP.out]; rfl, rfl⟩
end Go.Proofs.Ytpmogdddngbneaa
