/-
  The digest of numbers and the token of a label: what they compute.
-/
import Derived.Test.YtpmogdddngbneaaJouBase
import Derived.IntWalk
namespace Go.Proofs.Ytpmogdddngbneaa
open Go.RowKit
attribute [local go_sem] ba_get ba_extract ba_append

theorem Rd.new (w : World) (cs : List Value) (t : TypeId) : Rd (w.alloc (.cells cs.toArray t)) (some ⟨w.heap.size, 0, none⟩) cs := by
  refine .inr ⟨_, _, rfl, by simp, fun i u hu => ?_⟩
  have := World.news_of_block (heap_alloc_new w (.cells cs.toArray t)) i u (by simpa using hu)
  rwa [add_at] at this
theorem own_rd {w : World} {base : Nat} {e : TypeId} {A : Option Addr} {c n : Nat} {xs : List Value} (h : w.ownsRow base e 1 (.slice A n c) n xs) : Rd w A xs := by
  obtain ⟨A', c', hv, _, _, hr⟩ := Rd.of_own h
  cases hv
  exact hr
theorem ba (W : World) (o : Obj) : Below W.heap.size W (W.alloc o) := (Below.refl _ W).alloc (Nat.le_refl _) o
theorem below_grown {w w' : World} (h : w.grownBy w' none) : Below w.heap.size w w' := ⟨h.os, h.tape, h.output, h.size, fun i hi => h.block i hi (by simp)⟩
def I64 (n : Int) : Prop := -9223372036854775808 ≤ n ∧ n ≤ 9223372036854775807
def dstep (h n : Int) : Int := (h * 1000003 + n % 2147483647 + 1) % 2147483647
def dsum (ns : List Int) : Int := ns.foldl dstep 7
def toks (secret : Int) (l : List UInt8) : List Int := secret :: l.map fun c => (c.toNat : Int)
def tok (secret : Int) (l : List UInt8) : Int := dsum (toks secret l)
theorem dstep_lt (h n : Int) : 0 ≤ dstep h n ∧ dstep h n < 2147483647 := by unfold dstep; omega
theorem dsum_lt : ∀ (ns : List Int) (x : Int), 0 ≤ x ∧ x < 2147483647 → 0 ≤ ns.foldl dstep x ∧ ns.foldl dstep x < 2147483647
  | [], _, h => h
  | n :: ns, x, _ => dsum_lt ns _ (dstep_lt x n)
theorem dstep_pos {h n : Int} (hm : 0 ≤ n.tmod 2147483647) : (h * 1000003 + n.tmod 2147483647 + 1) % 2147483647 = dstep h n := by
  have e : n.tmod 2147483647 = n % 2147483647 := by
    rcases Int.le_total 0 n with hn | hn
    · exact Int.tmod_eq_emod_of_nonneg hn
    · rw [Int.tmod_eq_emod] at hm ⊢; split at hm <;> split <;> simp_all <;> omega
  rw [e]; rfl
theorem dstep_neg {h n : Int} (hm : n.tmod 2147483647 < 0) : (h * 1000003 + (n.tmod 2147483647 + 2147483647) + 1) % 2147483647 = dstep h n := by
  have e : n.tmod 2147483647 + 2147483647 = n % 2147483647 := by
    rw [Int.tmod_eq_emod] at hm ⊢; split at hm <;> split <;> simp_all <;> omega
  rw [e]; rfl
theorem tmod_bounds (n : Int) : -2147483647 < n.tmod 2147483647 ∧ n.tmod 2147483647 < 2147483647 := by
  rw [Int.tmod_eq_emod]; split <;> simp <;> omega
set_option maxHeartbeats 2000000 in
set_option maxRecDepth 100000 in
theorem sum_any (ns : List Int) (A : Option Addr) (c : Nat) (w : World) (hA : Rd w A (ns.map iV)) (hn : ∀ n ∈ ns, I64 n) (hl : ns.length ≤ 1000000) :
    Calls Try.prog 26 #[.slice A ns.length c] w fun e w' => e = .returned (iV (dsum ns)) ∧ w = w' := by
  have HN := Lib.hid hn; clear hn
  have HA := Lib.hid hA; clear hA
  go_enter Try.func26, Try.ntmps26
  go_wp2
  go_loopw [3, 9] (fun h i wr => w = wr ∧ ∃ (k : Nat) (x : Int), k ≤ ns.length ∧ i = iV k ∧ h = iV x ∧ 0 ≤ x ∧ x < 2147483647 ∧ Hid ((ns.drop k).foldl dstep x = dsum ns)) (fun _ i _ => ns.length - (intOf i).toNat)
  case atStart => exact ⟨rfl, 0, 7, Nat.zero_le _, rfl, rfl, by decide, by decide, rfl⟩
  case round =>
    obtain ⟨rfl, k, x, hk, rfl, rfl, hx0, hx1, HR⟩ := hrel
    by_cases hlt : k < ns.length
    · have hc := HA.out.get (i := k) (by simpa using hlt)
      obtain ⟨b, off, rfl, hb1, hc⟩ := hc
      have k1 : w.cell? ⟨b, off + k, none⟩ = some (iV ns[k]) := hc k _ (by simp [hlt])
      clear hc
      obtain ⟨q1, q2⟩ := tmod_bounds ns[k]
      have i1 : (0 : Int) ≤ (k : Int) := by omega
      have i2 : (k : Int) < (ns.length : Int) := by omega
      have HS : Hid ((ns.drop (k+1)).foldl dstep (dstep x ns[k]) = dsum ns) := by
        show _ = _
        rw [← HR.out, List.drop_eq_getElem_cons hlt]; rfl
      have hi64 := Lib.hid (HN.out _ (List.getElem_mem hlt))
      generalize hnk : ns[k] = n at *
      have HE := Lib.hid hnk; clear hnk
      go_wp2
      · go_roundw
        case rel =>
          refine ⟨trivial, k + 1, dstep x n, by omega, by go_num, ?_, (dstep_lt x n).1, (dstep_lt x n).2, HS⟩
          rw [dstep_neg (by assumption)]
        case measure => simp [intOf]; omega
      · go_roundw
        case rel =>
          refine ⟨trivial, k + 1, dstep x n, by omega, by go_num, ?_, (dstep_lt x n).1, (dstep_lt x n).2, HS⟩
          rw [dstep_pos (by assumption)]
        case measure => simp [intOf]; omega
    · obtain rfl : k = ns.length := by omega
      go_wp2
      go_ret
      have := HR.out
      rw [List.drop_length] at this
      exact ⟨by rw [← this]; rfl, rfl⟩
set_option maxHeartbeats 1000000 in
theorem dig_any (ns : List Int) (A : Option Addr) (c : Nat) (w : World) (hA : Rd w A (ns.map iV)) (hn : ∀ n ∈ ns, I64 n) (hl : ns.length ≤ 1000000) :
    Calls Try.prog 15 #[.slice A ns.length c] w fun e w' => e = .returned (iV (dsum ns)) ∧ w = w' := by
  have CS := Lib.hid (sum_any ns A c w hA hn hl); clear hA hn
  go_enter Try.func15, Try.ntmps15
  go_wp2_with (go_at_call 26; refine CS.out.mono ?_; rintro e w3 ⟨rfl, rfl⟩)
  go_ret
  exact ⟨rfl, rfl⟩
theorem app_below {B base : Nat} {w wr w4 : World} {e : TypeId} {v : Value} {n s : Nat} {xs : List Value} (HB : Below B w wr) (hB : B ≤ w.heap.size) (HO : wr.ownsRow base e s v n xs) (hb : B ≤ base) (HG : wr.grownBy w4 v.ownBlock) : Below B w w4 :=
  ⟨HG.os.trans HB.os, HG.tape.trans HB.tape, HG.output.trans HB.output, Nat.le_trans HB.size HG.size, fun i hi => (HG.block i (Nat.lt_of_lt_of_le (Nat.lt_of_lt_of_le hi hB) HB.size) (fun e => by have := (HO.lt i e.symm).1; omega)).trans (HB.block i hi)⟩
theorem intInf : (Try.prog.info? 3).map (fun i => (i.zero, i.size, i.bytes)) = some (some (.int .i64 0), 1, 8) := by kernel_rfl
theorem one_i (l : List Int) : ∀ u ∈ l.map iV, u.oneCell' = true := by intro u hu; obtain ⟨n, _, rfl⟩ := List.mem_map.1 hu; rfl
theorem toks_take (s : Int) (l : List UInt8) (k : Nat) (h : k < l.length) : toks s (l.take (k + 1)) = toks s (l.take k) ++ [((l[k]).toNat : Int)] := by
  unfold toks
  rw [List.take_succ_eq_append_getElem h, List.map_append]; rfl
theorem toks_len (s : Int) (l : List UInt8) : (toks s l).length = l.length + 1 := by simp [toks]
theorem toks_i64 {s : Int} (hs : I64 s) (l : List UInt8) : ∀ n ∈ toks s l, I64 n := by
  intro n hn
  rcases List.mem_cons.1 hn with rfl | hn
  · exact hs
  · obtain ⟨c, _, rfl⟩ := List.mem_map.1 hn
    have := c.toNat_lt
    unfold I64; omega
set_option maxHeartbeats 4000000 in
set_option maxRecDepth 100000 in
theorem token_any (s : Int) (l : List UInt8) (w : World) (hs : I64 s) (hl : l.length ≤ 1000) :
    Calls Try.prog 13 #[iV s, sV l] w fun e w' => e = .returned (iV (tok s l)) ∧ Below w.heap.size w w' := by
  obtain ⟨i0, hi0, hz0, hz1, hz2⟩ := info_parts intInf
  have HI := Lib.hid hs; clear hs
  go_enter Try.func13, Try.ntmps13
  go_wp2_with (first
    | (at_make; refine wpList_make_own _ rfl _ _ 34 rfl w.heap.size 3 i0 _ 1 Try.underlying34 hi0 hz0 hz1 .i64 .i64 _ (l.length + 1) (by rfl) (by rfl) (by go_num) (by rw [hz2]; omega) (by unfold maxLen; omega) (Nat.le_refl _) ?_; intro w1 hown1 hgrow1; have HO1 := Lib.hid hown1; clear hown1; have HG1 := Lib.hid hgrow1; clear hgrow1)
    | (at_builtin; go_must (refine wpList_app (by rfl) _ _ _ _ (by rfl) w.heap.size 3 i0 _ 1 8 Try.underlying34 hi0 hz0 hz1 hz2 (by rfl) _ 0 [] (by rfl) (HO1.out.alloc _) _ (by rfl) 1 ([s].map iV) (src_rd Try.underlying34 (Rd.new w1 _ _) (by rfl) (one_i _)) (by unfold maxLen; omega) (by omega) (by have := HG1.out.size; simp; omega) ?_); intro A2 c2 w2 hown2 hgrow2 _; have HO2 := Lib.hid hown2; clear hown2; have HG2 := Lib.hid hgrow2; clear hgrow2))
  go_loopw [5, 17] (fun v i wr => ∃ k : Nat, k ≤ l.length ∧ i = iV k ∧ Hid (wr.ownsRow w.heap.size 3 1 v (k + 1) ((toks s (l.take k)).map iV)) ∧ Hid (Below w.heap.size w wr)) (fun _ i _ => l.length - (intOf i).toNat)
  case atStart =>
    refine ⟨0, Nat.zero_le _, rfl, HO2.out, ?_⟩
    exact app_below ((below_grown HG1.out).trans ((ba w1 _).mono HG1.out.size)) (Nat.le_refl _) (HO1.out.alloc _) (Nat.le_refl _) HG2.out
  case round =>
    obtain ⟨k, hk, rfl, HO, HB⟩ := hrel
    obtain ⟨A3, c3, rfl⟩ := own_form HO.out
    by_cases hlt : k < l.length
    · have i1 : (0 : Int) ≤ (k : Int) := by omega
      have i2 : (k : Int) < (l.length : Int) := by omega
      have i3 : ((l[k]).toNat : Int) < 256 := by have := l[k].toNat_lt; omega
      have i4 : (0 : Int) ≤ ((l[k]).toNat : Int) := by omega
      go_wp2_with (at_builtin; go_must (refine wpList_app (by rfl) _ _ _ _ (by rfl) w.heap.size 3 i0 _ 1 8 Try.underlying34 hi0 hz0 hz1 hz2 (by rfl) _ (k + 1) _ (by rfl) (HO.out.alloc _) _ (by rfl) 1 ([((l[k]).toNat : Int)].map iV) (src_rd Try.underlying34 (Rd.new wr _ _) (by rfl) (one_i _)) (by unfold maxLen; omega) (by omega) (by have := HB.out.size; simp; omega) ?_); intro A4 c4 w4 hown4 hgrow4 _; have HO4 := Lib.hid hown4; clear hown4; have HG4 := Lib.hid hgrow4; clear hgrow4)
      go_roundw
      case rel =>
        refine ⟨k + 1, by omega, by go_num, ?_, ?_⟩
        · show World.ownsRow _ _ _ _ _ _ _
          rw [toks_take s l k hlt, List.map_append]; exact HO4.out
        · exact app_below (HB.out.trans (ba wr _ |>.mono HB.out.size)) (Nat.le_refl _) (HO.out.alloc _) (Nat.le_refl _) HG4.out
      case measure => simp [intOf]; omega
    · obtain rfl : k = l.length := by omega
      rw [List.take_length] at HO
      have CS := Lib.hid (dig_any (toks s l) A3 c3 wr (own_rd HO.out) (toks_i64 HI.out l) (by rw [toks_len]; omega))
      rw [toks_len] at CS
      go_wp2_with (go_at_call 15; refine CS.out.mono ?_; rintro e w3 ⟨rfl, rfl⟩)
      go_ret
      exact ⟨rfl, HB.out⟩
end Go.Proofs.Ytpmogdddngbneaa
