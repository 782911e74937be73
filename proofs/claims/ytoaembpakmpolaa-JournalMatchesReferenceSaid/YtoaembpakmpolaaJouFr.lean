/-
  Frames in plain Lean, and the walks over checksum and framed.
-/
import Derived.Test.YtoaembpakmpolaaJouDec
import Derived.Laws.Cover3
import Derived.ChangeKeysEq
namespace Go.Proofs.Ytoaembpakmpolaa
open Go.RowKit Jou
attribute [local go_sem] ba_get ba_extract ba_append
namespace Jou
/-- The two sums of a checksum. -/
def ab (l : List UInt8) : Nat × Nat := l.foldl (fun p x => (p.1 + x.toNat, p.2 + (p.1 + x.toNat))) (1, 0)
def csum (l : List UInt8) : List UInt8 := lenB ((ab l).2 % 65521) ++ lenB ((ab l).1 % 65521)
theorem ab_snoc (l : List UInt8) (x : UInt8) : ab (l ++ [x]) = ((ab l).1 + x.toNat, (ab l).2 + ((ab l).1 + x.toNat)) := by
  simp [ab, List.foldl_append]
theorem ab_take (l : List UInt8) (k : Nat) (h : k < l.length) : ab (l.take (k + 1)) = ((ab (l.take k)).1 + l[k].toNat, (ab (l.take k)).2 + ((ab (l.take k)).1 + l[k].toNat)) := by
  rw [List.take_succ_eq_append_getElem h, ab_snoc]
theorem ab_le (l : List UInt8) (h : l.length ≤ 3000) : ∀ k, k ≤ l.length → (ab (l.take k)).1 ≤ 1 + 255 * k ∧ (ab (l.take k)).2 ≤ 765001 * k := by
  intro k
  induction k with
  | zero => intro _; simp [ab]
  | succ k ih =>
    intro hk
    have := ih (by omega)
    have hx := UInt8.toNat_lt l[k]
    rw [ab_take l k (by omega)]
    simp only
    omega
theorem lenB_val (x : Nat) (h : x < 65536) : (lenB x).map bV = [.int .u8 ((x : Int) / 256), .int .u8 ((x : Int) % 256)] := by
  have e1 : ((UInt8.ofNat (x / 256)).toNat : Int) = (x : Int) / 256 := by rw [UInt8.toNat_ofNat']; omega
  have e2 : ((UInt8.ofNat x).toNat : Int) = (x : Int) % 256 := by rw [UInt8.toNat_ofNat']; omega
  simp only [lenB, List.map_cons, List.map_nil, bV, e1, e2]
/-- The record of the frame with which bytes begin. -/
def framed (j : List UInt8) : Option (List UInt8) :=
  match j with
  | a :: b :: c :: d :: r =>
    let n := a.toNat * 256 + b.toNat
    if r.length ≤ 4 ∨ c ≠ 255 - a ∨ d ≠ 255 - b then none
    else if n < 1 ∨ 3000 < n ∨ r.length < n + 4 then none
    else if csum ((r.drop 4).take n) = r.take 4 then some ((r.drop 4).take n) else none
  | _ => none
end Jou
set_option maxHeartbeats 1000000 in
set_option maxRecDepth 100000 in
theorem checksum_any (l : List UInt8) (A : Option Addr) (c : Nat) (w : World) (hA : Rd w A (l.map bV)) (hl : l.length ≤ 3000) :
    Calls Try.prog 37 #[.slice A l.length c] w fun e w' => e = .returned (.agg ((csum l).map bV).toArray) ∧ Below w.heap.size w w' := by
  have HA := Lib.hid hA; clear hA
  have hble := ab_le l hl
  have HL := Lib.hid hble; clear hble
  go_enter Try.func37, Try.ntmps37
  go_wp2
  go_loop [3, 4, 6, 9] (fun x y _ i => ∃ k : Nat, k ≤ l.length ∧ i = iV k ∧ x = iV (ab (l.take k)).1 ∧ y = iV (ab (l.take k)).2) (fun _ _ _ i => l.length - (intOf i).toNat)
  case atStart => exact ⟨0, Nat.zero_le _, rfl, rfl, rfl⟩
  case round =>
    obtain ⟨k, hk, rfl, rfl, rfl⟩ := hrel
    obtain ⟨h1, h2⟩ := HL.out k hk
    by_cases hlt : k < l.length
    · obtain ⟨b, off, rfl, hb, hc⟩ := HA.out.get (i := k) (by simpa using hlt)
      have hcell := HA.out.byte hlt
      clear hc
      have hx := UInt8.toNat_lt l[k]
      have hcell' : (w.alloc (.cells #[.int .u8 0, .int .u8 0, .int .u8 0, .int .u8 0] 80)).cell? ⟨b, off + k, none⟩ = some (bV l[k]) := by rw [World.cell?_alloc_past _ _ _ hb]; exact hcell
      go_wp2
      go_round
      case rel => 
        have := ab_take l k hlt
        exact ⟨k + 1, by omega, by go_num, by rw [this]; go_num, by rw [this]; go_num⟩
      case measure => simp [intOf]; omega
    · obtain rfl : k = l.length := by omega
      go_wp2
      refine bodyPost_ret (v := .agg #[.int .u8 (((ab l).2 : Int) % 65521 / 256), .int .u8 (((ab l).2 : Int) % 65521 % 256), .int .u8 (((ab l).1 : Int) % 65521 / 256), .int .u8 (((ab l).1 : Int) % 65521 % 256)]) (by simp [results, Try.results37, go_sem]) rfl ⟨?_, (Below.refl _ _).alloc (Nat.le_refl _) _⟩
      rw [csum, List.map_append, lenB_val _ (by omega), lenB_val _ (by omega)]
      simp

theorem cells5 : Try.prog.cellsOf 5 = 1 := by kernel_rfl
theorem byteI : (Try.prog.info? 5).isSome = true := by kernel_rfl
theorem part_b {xs : Array Value} {i : Nat} {b : UInt8} (h : xs[i]? = some (bV b)) (w : World) : (part 5 xs i).run Try.prog w = .ok (bV b) w :=
  run_part_plain w (by kernel_rfl) h
theorem eq_b (d : Nat) (x y : UInt8) (w : World) : (Op.equalIn (d + 1) 5 (bV x) (bV y)).run Try.prog w = .ok (decide (x = y)) w := by
  rw [run_equalIn_int w d _ _ _ _ _ Try.underlying5]
  congr 1
  rw [Bool.eq_iff_iff]
  simp only [beq_iff_eq, decide_eq_true_eq, ← UInt8.toNat_inj]
  omega
theorem items_b (d : Nat) (xs ys : Array Value) (w : World) : ∀ (is : List Nat) (us vs : List UInt8), us.length = is.length → vs.length = is.length → (∀ k (h : k < is.length), xs[is[k] * 1]? = (us[k]?).map bV ∧ ys[is[k] * 1]? = (vs[k]?).map bV) →
    (Op.eqItems (d + 1) 5 1 xs ys is).run Try.prog w = .ok (decide (us = vs)) w := by
  intro is
  induction is with
  | nil =>
    intro us vs h1 h2 _
    rw [List.eq_nil_of_length_eq_zero h1, List.eq_nil_of_length_eq_zero h2]
    simp [Op.eqItems]
  | cons i is ih =>
    intro us vs h1 h2 h
    match us, vs, h1, h2, h with
    | a :: us, b :: vs, h1, h2, h =>
      have h0 := h 0 (by simp)
      simp only [List.getElem_cons_zero, List.getElem?_cons_zero, Option.map_some] at h0
      have ih' := ih us vs (by simpa using h1) (by simpa using h2) (fun k hk => by have := h (k + 1) (by simpa using hk); simpa using this)
      simp only [Op.eqItems, Sem.run_bind, part_b h0.1, part_b h0.2, Result.andThen_ok, eq_b]
      by_cases hab : a = b
      · simp [hab, ih']
      · simp [hab]
theorem eq4' (d : Nat) (s0 s1 s2 s3 e0 e1 e2 e3 : UInt8) (w : World) : (Op.equalIn (d + 1 + 1) 80 (.agg #[bV s0, bV s1, bV s2, bV s3]) (.agg #[bV e0, bV e1, bV e2, bV e3])).run Try.prog w = .ok (decide ([s0, s1, s2, s3] = [e0, e1, e2, e3])) w := by
  obtain ⟨i, hi⟩ := Option.isSome_iff_exists.1 byteI
  rw [run_equalIn_array w (d + 1) _ _ Try.underlying80 hi, cells5]
  refine items_b d _ _ w (List.range 4) _ _ rfl rfl ?_
  intro k hk
  have : k = 0 ∨ k = 1 ∨ k = 2 ∨ k = 3 := by simp at hk; omega
  rcases this with rfl | rfl | rfl | rfl <;> exact ⟨rfl, rfl⟩
theorem eq4 (s0 s1 s2 s3 e0 e1 e2 e3 : UInt8) (w : World) : (Op.equalIn 10000 80 (.agg #[bV s0, bV s1, bV s2, bV s3]) (.agg #[bV e0, bV e1, bV e2, bV e3])).run Try.prog w = .ok (decide ([s0, s1, s2, s3] = [e0, e1, e2, e3])) w :=
  eq4' 9998 _ _ _ _ _ _ _ _ w
/-- What framed leaves: whether there is a record, and where. -/
def FrRes (j : List UInt8) (A : Option Addr) (c : Nat) (w : World) (e : Ending) (w' : World) : Prop :=
  Below w.heap.size w w' ∧ match framed j with
    | none => ∃ v, e = .returned (.tuple #[v, .bool false])
    | some r => e = .returned (.tuple #[.slice (A.map fun x => x.add 8) r.length (c - 8), .bool true])
set_option maxHeartbeats 4000000 in
set_option maxRecDepth 100000 in
theorem framed_any (j : List UInt8) (A : Option Addr) (c : Nat) (w : World) (hA : Rd w A (j.map bV)) (hc : j.length ≤ c) (hm : c ≤ maxLen) :
    Calls Try.prog 65 #[.slice A j.length c] w (FrRes j A c w) := by
  have HA := Lib.hid hA; clear hA
  have HC := Lib.hid hc; clear hc
  unfold maxLen at hm
  by_cases h8 : j.length ≤ 8
  · have HN : Hid (framed j = none) := by
      show _ = _
      unfold framed
      split
      · rw [if_pos (.inl (by simp at h8; omega))]
      · rfl
    have h8' : decide (j.length ≤ 8) = true := by simpa using h8
    have h8'' : decide ((j.length : Int) ≤ 8) = true := by simp; omega
    go_enter Try.func65, Try.ntmps65
    go_wp2
    go_quiet (fail)
    go_wp2
    go_ret2
    refine ⟨below_drewN (Below.refl _ _) _, ?_⟩
    rw [HN.out]
    exact ⟨_, rfl⟩
  · obtain ⟨a, b, c0, d, e0, e1, e2, e3, r, rfl⟩ : ∃ a b c0 d e0 e1 e2 e3 r, j = a :: b :: c0 :: d :: e0 :: e1 :: e2 :: e3 :: r := by
      match j, h8 with
      | a :: b :: c0 :: d :: e0 :: e1 :: e2 :: e3 :: r, _ => exact ⟨_, _, _, _, _, _, _, _, _, rfl⟩
      | [], h | [_], h | [_, _], h | [_, _, _], h | [_, _, _, _], h | [_, _, _, _, _], h | [_, _, _, _, _, _], h | [_, _, _, _, _, _, _], h => simp at h
    obtain ⟨bl, off, rfl, hb, hc⟩ := HA.out.get (i := 0) (by simp)
    have k0 : w.cell? ⟨bl, off, none⟩ = some (bV a) := by have := HA.out.byte (i := 0) (by simp); simpa using this
    have k1 : w.cell? ⟨bl, off + 1, none⟩ = some (bV b) := by have := HA.out.byte (i := 1) (by simp); simpa using this
    have k2 : w.cell? ⟨bl, off + 2, none⟩ = some (bV c0) := by have := HA.out.byte (i := 2) (by simp); simpa using this
    have k3 : w.cell? ⟨bl, off + 3, none⟩ = some (bV d) := by have := HA.out.byte (i := 3) (by simp); simpa using this
    have k4 : w.cell? ⟨bl, off + 4, none⟩ = some (bV e0) := by have := HA.out.byte (i := 4) (by simp); simpa using this
    have k5 : w.cell? ⟨bl, off + 5, none⟩ = some (bV e1) := by have := HA.out.byte (i := 5) (by simp); simpa using this
    have k6 : w.cell? ⟨bl, off + 6, none⟩ = some (bV e2) := by have := HA.out.byte (i := 6) (by simp); simpa using this
    have k7 : w.cell? ⟨bl, off + 7, none⟩ = some (bV e3) := by have := HA.out.byte (i := 7) (by simp); simpa using this
    clear hc
    have b0 := UInt8.toNat_lt a
    have b1 := UInt8.toNat_lt b
    have b2 := UInt8.toNat_lt c0
    have b3 := UInt8.toNat_lt d
    obtain ⟨n, hn⟩ : ∃ n, n = (a :: b :: c0 :: d :: e0 :: e1 :: e2 :: e3 :: r).length := ⟨_, rfl⟩
    rw [← hn] at h8 ⊢
    have HNN : Hid (n = r.length + 8) := by show _ = _; rw [hn]; simp
    have hnc : n ≤ c := by rw [hn]; exact HC.out
    clear hn
    have h8' : decide ((n : Int) ≤ 8) = false := by simp; omega
    have h8i : (8 : Int) < (n : Int) := by omega
    have h8r : ¬ (e0 :: e1 :: e2 :: e3 :: r).length ≤ 4 := by have := HNN.out; simp only [List.length_cons]; omega
    have sub255 : ∀ x y : UInt8, (x ≠ 255 - y ↔ ((x.toNat : Int) != 255 - (y.toNat : Int)) = true) := by
      intro x y
      have hy := UInt8.toNat_lt y
      have e : x = 255 - y ↔ (x.toNat : Int) = 255 - (y.toNat : Int) := by
        rw [← UInt8.toNat_inj, UInt8.toNat_sub_of_le _ _ (by rw [UInt8.le_iff_toNat_le]; show _ ≤ 255; omega)]
        show x.toNat = 255 - y.toNat ↔ _
        omega
      rw [bne_iff_ne]
      exact not_congr e
    by_cases h1 : c0 ≠ 255 - a
    · have HN : Hid (framed (a :: b :: c0 :: d :: e0 :: e1 :: e2 :: e3 :: r) = none) := by
        show _ = _
        simp only [framed]
        rw [if_pos (.inr (.inl h1))]
      have h1' := (sub255 _ _).1 h1
      clear sub255
      go_enter Try.func65, Try.ntmps65
      go_wp2
      go_quiet (fail)
      go_wp2
      go_ret2
      refine ⟨below_drewN (Below.refl _ _) _, ?_⟩
      rw [HN.out]
      exact ⟨_, rfl⟩
    have h1' : ((c0.toNat : Int) != 255 - (a.toNat : Int)) = false := by rw [← Bool.not_eq_true, ← sub255]; exact h1
    by_cases h2 : d ≠ 255 - b
    · have HN : Hid (framed (a :: b :: c0 :: d :: e0 :: e1 :: e2 :: e3 :: r) = none) := by
        show _ = _
        simp only [framed]
        rw [if_pos (.inr (.inr h2))]
      have h2' := (sub255 _ _).1 h2
      clear sub255
      go_enter Try.func65, Try.ntmps65
      go_wp2
      go_quiet (fail)
      go_wp2
      go_ret2
      refine ⟨below_drewN (Below.refl _ _) _, ?_⟩
      rw [HN.out]
      exact ⟨_, rfl⟩
    have h2' : ((d.toNat : Int) != 255 - (b.toNat : Int)) = false := by rw [← Bool.not_eq_true, ← sub255]; exact h2
    clear sub255
    have hF : Hid (framed (a :: b :: c0 :: d :: e0 :: e1 :: e2 :: e3 :: r) = if a.toNat * 256 + b.toNat < 1 ∨ 3000 < a.toNat * 256 + b.toNat ∨ n - 8 < a.toNat * 256 + b.toNat then none else if csum (r.take (a.toNat * 256 + b.toNat)) = [e0, e1, e2, e3] then some (r.take (a.toNat * 256 + b.toNat)) else none) := by
      show _ = _
      simp only [framed]
      rw [if_neg (fun h => h.elim h8r (fun h => h.elim h1 h2))]
      have e : (e0 :: e1 :: e2 :: e3 :: r).length < a.toNat * 256 + b.toNat + 4 ↔ n - 8 < a.toNat * 256 + b.toNat := by have := HNN.out; simp only [List.length_cons]; omega
      simp only [e, List.drop_succ_cons, List.drop_zero, List.take_succ_cons, List.take_zero]
    clear h1 h2 h8r
    by_cases h3 : a.toNat * 256 + b.toNat < 1 ∨ 3000 < a.toNat * 256 + b.toNat ∨ n - 8 < a.toNat * 256 + b.toNat
    · have HN : Hid (framed (a :: b :: c0 :: d :: e0 :: e1 :: e2 :: e3 :: r) = none) := by show _ = _; rw [hF.out, if_pos h3]
      clear hF
      go_enter Try.func65, Try.ntmps65
      go_wp2
      go_quiet (fail)
      have h3b : ((a.toNat : Int) * 256 + (b.toNat : Int) < 1 ∨ 3000 < (a.toNat : Int) * 256 + (b.toNat : Int) ∨ (n : Int) - 8 < (a.toNat : Int) * 256 + (b.toNat : Int)) := by omega
      clear h3
      go_wp2
      go_quiet (fail)
      go_wp2
      all_goals
        go_ret2
        refine ⟨below_drewN (Below.refl _ _) _, ?_⟩
        rw [HN.out]
        exact ⟨_, rfl⟩
    · obtain ⟨m, hm0⟩ : ∃ m, m = a.toNat * 256 + b.toNat := ⟨_, rfl⟩
      rw [← hm0] at h3 hF
      have hm1 : 1 ≤ m ∧ m ≤ 3000 ∧ m + 8 ≤ n := by omega
      clear h3
      have HM : Hid ((a.toNat : Int) * 256 + (b.toNat : Int) = m) := by show _ = _; omega
      clear hm0
      obtain ⟨hm1, hm2, hm3⟩ := hm1
      have hr : Hid (m ≤ r.length) := by have := HNN.out; show _ ≤ _; omega
      have hF2 : Hid (framed (a :: b :: c0 :: d :: e0 :: e1 :: e2 :: e3 :: r) = if csum (r.take m) = [e0, e1, e2, e3] then some (r.take m) else none) := by
        show _ = _
        rw [hF.out, if_neg (by omega)]
      clear hF
      have HRD : Hid (Rd w (some ⟨bl, off + 8, none⟩) ((r.take m).map bV)) := by
        have h := (HA.out.drop 8).take m
        show Rd _ _ _
        rw [List.map_take]
        exact h
      obtain ⟨s0, s1, s2, s3, hs⟩ : ∃ s0 s1 s2 s3, csum (r.take m) = [s0, s1, s2, s3] := ⟨_, _, _, _, rfl⟩
      have CK : Hid (∀ W, (∀ p, p.block < w.heap.size → W.cell? p = w.cell? p) → w.heap.size ≤ W.heap.size → Calls Try.prog 37 #[.slice (some ⟨bl, off + 8, none⟩) m (c - 8)] W fun e w' => e = .returned (.agg #[bV s0, bV s1, bV s2, bV s3]) ∧ Below W.heap.size W w') := by
        intro W hW hz
        have hrw : Rd W (some ⟨bl, off + 8, none⟩) ((r.take m).map bV) := by
          rcases HRD.out with h | ⟨b', o', he, hb', hc'⟩
          · exact .inl h
          · cases he
            exact .inr ⟨_, _, rfl, by omega, fun i u hu => (hW ⟨bl, off + 8 + i, none⟩ hb').trans (hc' i u hu)⟩
        have := checksum_any (r.take m) (some ⟨bl, off + 8, none⟩) (c - 8) W hrw (by simp; omega)
        rw [hs, List.length_take, Nat.min_eq_left hr.out] at this
        exact this
      rw [hs] at hF2
      have HS := Lib.hid hs; clear hs
      have g1 : ¬ ((m : Int) < 1) := by omega
      have g2 : ¬ ((3000 : Int) < (m : Int)) := by omega
      have g3 : ¬ ((n : Int) - 8 < (m : Int)) := by omega
      have g4 : (8 : Int) + (m : Int) ≤ (n : Int) := by omega
      have g5 : (8 : Int) + (m : Int) ≤ (c : Int) := by omega
      have g6 : (8 : Int) ≤ (c : Int) := by omega
      have heq : ∀ W, (Op.equalIn 10000 80 (.agg #[bV s0, bV s1, bV s2, bV s3]) (.agg #[bV e0, bV e1, bV e2, bV e3])).run Try.prog W = .ok (decide ([s0, s1, s2, s3] = [e0, e1, e2, e3])) W := fun W => eq4 _ _ _ _ _ _ _ _ W
      obtain ⟨q, hq⟩ : ∃ q, q = decide ([s0, s1, s2, s3] = [e0, e1, e2, e3]) := ⟨_, rfl⟩
      rw [← hq] at heq
      have HQ := Lib.hid hq; clear hq
      have fin : Hid (∀ w', Below w.heap.size w w' → FrRes (a :: b :: c0 :: d :: e0 :: e1 :: e2 :: e3 :: r) (some ⟨bl, off, none⟩) c w (.returned (.tuple #[.slice (some ⟨bl, off + 8, none⟩) m (c - 8), .bool q])) w') := by
        intro w' hb'
        refine ⟨hb', ?_⟩
        rw [hF2.out]
        by_cases h : [s0, s1, s2, s3] = [e0, e1, e2, e3]
        · rw [if_pos h]
          have : q = true := by rw [HQ.out, decide_eq_true_eq]; exact h
          simp only [this, List.length_take, Nat.min_eq_left hr.out, Option.map_some, add_at]
        · rw [if_neg h]
          have : q = false := by rw [HQ.out, decide_eq_false_iff_not]; exact h
          rw [this]
          exact ⟨_, rfl⟩
      have hat : ∀ W, (Instr.arrayAt 80 (.slice (some ⟨bl, off + 4, none⟩) 4 (c - 4))).run Try.prog W = .ok (.pointer (some ⟨bl, off + 4, none⟩)) W := fun W => run_arrayAt W 80 _ 4 _ 4 (c - 4) Try.underlying80 (by omega)
      have g7 : 8 ≤ c := by omega
      have g8 : ¬ c = 4 := by omega
      have g9 : ¬ c ≤ 4 := by omega
      go_enter Try.func65, Try.ntmps65
      go_wp2
      go_quiet (fail)
      go_wp2
      go_quiet (fail)
      rw [HM.out]
      go_wp2_with fail
      go_region_held3 (fun w' => w'.cell? ⟨bl, off + 4, none⟩ = some (bV e0) ∧ w'.cell? ⟨bl, off + 5, none⟩ = some (bV e1) ∧ w'.cell? ⟨bl, off + 6, none⟩ = some (bV e2) ∧ w'.cell? ⟨bl, off + 7, none⟩ = some (bV e3))
        (first | go_keep | (refine ⟨?_, ?_, ?_, ?_⟩ <;> (rw [hbt.cell (by exact hb)]; first | exact k4 | exact k5 | exact k6 | exact k7)))
        (first
          | (go_at_call 37; refine (CK.out _ ?_ ?_).mono ?_; intro p hp; rfl; exact Nat.le_refl _; rintro e w3 ⟨rfl, hbt⟩))
      all_goals
        go_wp2
        go_ret2
        exact fin.out _ (bdrN hbt)
end Go.Proofs.Ytoaembpakmpolaa
