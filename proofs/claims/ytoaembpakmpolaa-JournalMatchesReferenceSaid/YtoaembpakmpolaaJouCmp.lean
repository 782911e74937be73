/-
  The walks over the comparisons: bytes, lists of bytes, numbers, texts, records, entries (at equal ones).
-/
import Derived.Test.YtoaembpakmpolaaJouRec
namespace Go.Proofs.Ytoaembpakmpolaa
open Go.RowKit Jou
attribute [local go_sem] ba_get ba_extract ba_append

/-- It answers v, and only draws. -/
def Quiet (w : World) (v : Value) (e : Ending) (w' : World) : Prop := e = .returned v ∧ ∃ n, w' = w.drewN n
theorem bne_bytes (x y : UInt8) : ((x.toNat : Int) != (y.toNat : Int)) = !decide (x = y) := by
  rw [Bool.eq_iff_iff]
  simp only [bne_iff_ne, Bool.not_eq_true', decide_eq_false_iff_not, ne_eq, ← UInt8.toNat_inj]
  omega
theorem take_ne {α : Type} {a b : List α} {k : Nat} (ha : k < a.length) (hb : k < b.length) (h : a[k] ≠ b[k]) : a ≠ b := fun e => h (by subst e; rfl)
theorem take_all {α : Type} {a b : List α} (hl : a.length = b.length) (h : a.take a.length = b.take a.length) : a = b := by
  rw [List.take_length] at h
  rw [h, hl, List.take_length]
set_option maxHeartbeats 1000000 in
set_option maxRecDepth 100000 in
theorem bytes_any (a b : List UInt8) (A B : Option Addr) (c d : Nat) (w : World) (hA : Rd w A (a.map bV)) (hB : Rd w B (b.map bV)) (hl2 : b.length ≤ maxLen) :
    Calls Try.prog 18 #[.slice A a.length c, .slice B b.length d] w (Quiet w (.bool (decide (a = b)))) := by
  have HA := Lib.hid hA; clear hA
  have HB := Lib.hid hB; clear hB
  unfold maxLen at hl2
  by_cases hlen : a.length = b.length
  · have h0 : ((b.length : Int) != (b.length : Int)) = false := by simp
    have HLEN := Lib.hid hlen
    rw [hlen]
    go_enter Try.func18, Try.ntmps18
    go_wp2
    go_loopw [5] (fun i wr => ∃ k n : Nat, k ≤ b.length ∧ i = iV k ∧ wr = w.drewN n ∧ a.take k = b.take k) (fun i _ => b.length - (intOf i).toNat)
    case atStart => exact ⟨0, 0, Nat.zero_le _, rfl, rfl, rfl⟩
    case round =>
      obtain ⟨k, n, hk, rfl, rfl, ht⟩ := hrel
      have HT := Lib.hid ht; clear ht
      clear hlen
      by_cases hlt : k < b.length
      · have hlt' : k < a.length := by rw [HLEN.out]; exact hlt
        obtain ⟨b1, o1, rfl, hb1, hc1⟩ := HA.out.get (i := k) (by simpa using hlt')
        obtain ⟨b2, o2, rfl, hb2, hc2⟩ := HB.out.get (i := k) (by simpa using hlt)
        clear hc1 hc2
        have k1 : w.cell? ⟨b1, o1 + k, none⟩ = some (bV a[k]) := HA.out.byte hlt'
        have k2 : w.cell? ⟨b2, o2 + k, none⟩ = some (bV b[k]) := HB.out.byte hlt
        have i1 : (0 : Int) ≤ (k : Int) := by omega
        have i2 : (k : Int) < (b.length : Int) := by omega
        have hq := bne_bytes a[k] b[k]
        obtain ⟨x, hx⟩ : ∃ x, x = a[k] := ⟨_, rfl⟩
        obtain ⟨y, hy⟩ : ∃ y, y = b[k] := ⟨_, rfl⟩
        rw [← hx, ← hy] at hq
        rw [← hx] at k1
        rw [← hy] at k2
        have HX := Lib.hid hx; clear hx
        have HY := Lib.hid hy; clear hy
        by_cases hxy : x = y
        · have HS : Hid (a.take (k + 1) = b.take (k + 1)) := by
            show _ = _
            rw [List.take_succ_eq_append_getElem hlt', List.take_succ_eq_append_getElem hlt, HT.out, ← HX.out, ← HY.out, hxy]
          have hq2 : ((x.toNat : Int) != (y.toNat : Int)) = false := by rw [hq, hxy]; simp
          clear hq HX HY hlt'
          have HXY := Lib.hid hxy; clear hxy
          go_wp2
          go_quiet (fail)
          go_wp2
          go_roundw
          case rel => exact ⟨k + 1, _, by omega, by go_num, rfl, HS.out⟩
          case measure => simp [intOf]; omega
        · have HS : Hid (decide (a = b) = false) := by
            show _ = _
            rw [decide_eq_false_iff_not]
            exact take_ne hlt' hlt (by rw [← HX.out, ← HY.out]; exact hxy)
          have hq2 : ((x.toNat : Int) != (y.toNat : Int)) = true := by rw [hq]; simp [hxy]
          clear hq HX HY hlt' hxy
          go_wp2
          go_quiet (fail)
          go_wp2
          go_ret
          rw [HS.out]
          exact ⟨rfl, n + nq, by rw [World.drewN_drewN]⟩
      · obtain rfl : k = b.length := by omega
        go_wp2
        go_ret
        have : a = b := take_all HLEN.out (by rw [HLEN.out]; exact HT.out)
        exact ⟨by simp [this], _, rfl⟩
  · have h0 : ((a.length : Int) != (b.length : Int)) = true := by rw [bne_iff_ne]; omega
    have HS : Hid (decide (a = b) = false) := by show _ = _; rw [decide_eq_false_iff_not]; intro h; rw [h] at hlen; exact hlen rfl
    go_enter Try.func18, Try.ntmps18
    go_wp2
    go_ret
    rw [HS.out]
    exact ⟨rfl, 0, rfl⟩

/-- A list of lists of bytes that is read. -/
def RdL (w : World) (A : Option Addr) (ls : List (List UInt8)) : Prop :=
  ∃ rows : List Sl, rows.map (·.2.2) = ls ∧ Rd w A (rows.map slV) ∧ ∀ r ∈ rows, Rd w r.1 (r.2.2.map bV) ∧ Low w.heap.size r.1 ∧ r.2.2.length ≤ r.2.1 ∧ r.2.1 ≤ maxLen
theorem RdL.below {w w' : World} {A : Option Addr} {ls : List (List UInt8)} (h : RdL w A ls) (hb : Below w.heap.size w w') : RdL w' A ls := by
  obtain ⟨rows, h1, h2, h3⟩ := h
  exact ⟨rows, h1, h2.below hb, fun r hr => ⟨(h3 r hr).1.below hb, (h3 r hr).2.1.mono hb.size, (h3 r hr).2.2⟩⟩
/-- The i-th one. -/
theorem RdL.get {w : World} {A : Option Addr} {ls : List (List UInt8)} (h : RdL w A ls) {i : Nat} (hi : i < ls.length) :
    ∃ b off A' c', A = some ⟨b, off, none⟩ ∧ b < w.heap.size ∧ w.cell? ⟨b, off + i, none⟩ = some (.slice A' ls[i].length c') ∧ Rd w A' (ls[i].map bV) ∧ Low w.heap.size A' ∧ ls[i].length ≤ c' ∧ c' ≤ maxLen := by
  obtain ⟨rows, rfl, h2, h3⟩ := h
  have hi' : i < rows.length := by simpa using hi
  obtain ⟨b, off, rfl, hb, hc⟩ := h2.get (i := i) (by simpa using hi')
  have hr := h3 rows[i] (List.getElem_mem _)
  refine ⟨b, off, rows[i].1, rows[i].2.1, rfl, hb, ?_, ?_, hr.2.1, ?_, hr.2.2.2⟩
  · rw [hc i (slV rows[i]) (by rw [List.getElem?_map, List.getElem?_eq_getElem hi']; rfl)]
    simp [slV]
  · simpa using hr.1
  · simpa using hr.2.2.1
set_option maxHeartbeats 1000000 in
set_option maxRecDepth 100000 in
theorem lists_same (ls : List (List UInt8)) (A B : Option Addr) (c d : Nat) (w : World) (hA : RdL w A ls) (hB : RdL w B ls) (hl : ls.length ≤ maxLen) :
    Calls Try.prog 22 #[.slice A ls.length c, .slice B ls.length d] w (Quiet w (.bool true)) := by
  have HA := Lib.hid hA; clear hA
  have HB := Lib.hid hB; clear hB
  unfold maxLen at hl
  have h0 : ((ls.length : Int) != (ls.length : Int)) = false := by simp
  go_enter Try.func22, Try.ntmps22
  go_wp2
  go_loopw [5] (fun i wr => ∃ k : Nat, k ≤ ls.length ∧ i = iV k ∧ Hid (∃ n, wr = w.drewN n)) (fun i _ => ls.length - (intOf i).toNat)
  case atStart => exact ⟨0, Nat.zero_le _, rfl, 0, rfl⟩
  case round =>
    obtain ⟨k, hk, rfl, HN⟩ := hrel
    by_cases hlt : k < ls.length
    · obtain ⟨b1, o1, A1, c1, rfl, hb1, hc1, hr1, hl1, hle1, hm1⟩ := HA.out.get hlt
      obtain ⟨b2, o2, A2, c2, rfl, hb2, hc2, hr2, hl2, hle2, hm2⟩ := HB.out.get hlt
      have k1 : wr.cell? ⟨b1, o1 + k, none⟩ = some (.slice A1 ls[k].length c1) := by obtain ⟨n, rfl⟩ := HN.out; exact hc1
      have k2 : wr.cell? ⟨b2, o2 + k, none⟩ = some (.slice A2 ls[k].length c2) := by obtain ⟨n, rfl⟩ := HN.out; exact hc2
      have i1 : (0 : Int) ≤ (k : Int) := by omega
      have i2 : (k : Int) < (ls.length : Int) := by omega
      have BQ : Hid (∀ m, Calls Try.prog 18 #[.slice A1 ls[k].length c1, .slice A2 ls[k].length c2] (wr.drewN m) fun e w'' => e = .returned (.bool true) ∧ ∃ j, w'' = wr.drewN j) := by
        intro m
        obtain ⟨n, rfl⟩ := HN.out
        refine (bytes_any ls[k] ls[k] A1 A2 c1 c2 ((w.drewN n).drewN m) ((hr1.drewN n).drewN m) ((hr2.drewN n).drewN m) (by omega)).mono ?_
        rintro e w' ⟨rfl, n', rfl⟩
        exact ⟨by simp, m + n', by rw [World.drewN_drewN]⟩
      clear hc1 hr1 hl1 hle1 hm1 hc2 hr2 hl2 hle2 hm2
      go_wp2
      go_quiet ((go_at_call 18; exact BQ.out _))
      go_wp2
      go_roundw
      case rel => exact ⟨k + 1, by omega, by go_num, by obtain ⟨n, rfl⟩ := HN.out; exact ⟨n + nq, by rw [World.drewN_drewN]⟩⟩
      case measure => simp [intOf]; omega
    · obtain rfl : k = ls.length := by omega
      go_wp2
      go_ret
      exact ⟨rfl, HN.out⟩

set_option maxHeartbeats 1000000 in
set_option maxRecDepth 100000 in
theorem ints_same (ns : List Int) (A B : Option Addr) (c d : Nat) (w : World) (hA : Rd w A (ns.map iV)) (hB : Rd w B (ns.map iV)) (hl : ns.length ≤ maxLen) :
    Calls Try.prog 56 #[.slice A ns.length c, .slice B ns.length d] w (Quiet w (.bool true)) := by
  have HA := Lib.hid hA; clear hA
  have HB := Lib.hid hB; clear hB
  unfold maxLen at hl
  have h0 : ((ns.length : Int) != (ns.length : Int)) = false := by simp
  go_enter Try.func56, Try.ntmps56
  go_wp2
  go_loopw [5] (fun i wr => ∃ k n : Nat, k ≤ ns.length ∧ i = iV k ∧ wr = w.drewN n) (fun i _ => ns.length - (intOf i).toNat)
  case atStart => exact ⟨0, 0, Nat.zero_le _, rfl, rfl⟩
  case round =>
    obtain ⟨k, n, hk, rfl, rfl⟩ := hrel
    by_cases hlt : k < ns.length
    · obtain ⟨b1, o1, rfl, hb1, hc1⟩ := HA.out.get (i := k) (by simpa using hlt)
      obtain ⟨b2, o2, rfl, hb2, hc2⟩ := HB.out.get (i := k) (by simpa using hlt)
      have k1 : w.cell? ⟨b1, o1 + k, none⟩ = some (iV ns[k]) := hc1 k _ (by rw [List.getElem?_map, List.getElem?_eq_getElem hlt]; rfl)
      have k2 : w.cell? ⟨b2, o2 + k, none⟩ = some (iV ns[k]) := hc2 k _ (by rw [List.getElem?_map, List.getElem?_eq_getElem hlt]; rfl)
      clear hc1 hc2
      have i1 : (0 : Int) ≤ (k : Int) := by omega
      have i2 : (k : Int) < (ns.length : Int) := by omega
      have hq : (ns[k] != ns[k]) = false := by simp
      go_wp2
      go_quiet (fail)
      go_wp2
      go_roundw
      case rel => exact ⟨k + 1, _, by omega, by go_num, rfl⟩
      case measure => simp [intOf]; omega
    · obtain rfl : k = ns.length := by omega
      go_wp2
      go_ret
      exact ⟨rfl, _, rfl⟩
theorem numbers_same (n : Int) (w : World) : Calls Try.prog 71 #[iV n, iV n] w fun e w' => e = .returned (iV 0) ∧ w = w' := by
  go_enter Try.func71, Try.ntmps71
  go_wp2
  go_ret
  exact ⟨rfl, rfl⟩
theorem less_self : ∀ l : List UInt8, Op.bytesLess l l = false
  | [] => rfl
  | a :: l => by
    have := less_self l
    simp [Op.bytesLess, this]
theorem texts_same (l : List UInt8) (w : World) : Calls Try.prog 72 #[sV l, sV l] w fun e w' => e = .returned (iV 0) ∧ w = w' := by
  have h := less_self l
  go_enter Try.func72, Try.ntmps72
  go_wp2
  go_ret
  exact ⟨rfl, rfl⟩
set_option maxHeartbeats 4000000 in
set_option maxRecDepth 100000 in
theorem compare_same (r : Rec) (A B : Option Addr) (c d : Nat) (w : World) (hA : Rd w A (r.contents.map sV)) (hB : Rd w B (r.contents.map sV)) (hl : r.contents.length ≤ maxLen) :
    Calls Try.prog 55 #[.agg (recCells r A c), .agg (recCells r B d)] w fun e w' => e = .returned (iV 0) ∧ Below w.heap.size w w' := by
  have HA := Lib.hid hA; clear hA
  have HB := Lib.hid hB; clear hB
  unfold maxLen at hl
  unfold recCells
  have hb2 : Hid (Below w.heap.size w ((w.alloc (.cells #[iV r.scanner, iV r.number, iV r.kind, iV r.time, sV r.label, .slice A r.contents.length c] 26)).alloc (.cells #[iV r.scanner, iV r.number, iV r.kind, iV r.time, sV r.label, .slice B r.contents.length d] 26))) := ((Below.refl _ w).alloc (Nat.le_refl _) _).alloc (by simp) _
  have hz2 : ((w.alloc (.cells #[iV r.scanner, iV r.number, iV r.kind, iV r.time, sV r.label, .slice A r.contents.length c] 26)).alloc (.cells #[iV r.scanner, iV r.number, iV r.kind, iV r.time, sV r.label, .slice B r.contents.length d] 26)).heap.size = w.heap.size + 2 := by simp
  have g1 : Hid (((w.alloc (.cells #[iV r.scanner, iV r.number, iV r.kind, iV r.time, sV r.label, .slice A r.contents.length c] 26)).alloc (.cells #[iV r.scanner, iV r.number, iV r.kind, iV r.time, sV r.label, .slice B r.contents.length d] 26)).heap[w.heap.size]? = some (.cells #[iV r.scanner, iV r.number, iV r.kind, iV r.time, sV r.label, .slice A r.contents.length c] 26 (0, 0))) := (Below.heap_alloc _ _ _ (by simp)).trans (heap_alloc_new _ _)
  have g2 : Hid (((w.alloc (.cells #[iV r.scanner, iV r.number, iV r.kind, iV r.time, sV r.label, .slice A r.contents.length c] 26)).alloc (.cells #[iV r.scanner, iV r.number, iV r.kind, iV r.time, sV r.label, .slice B r.contents.length d] 26)).heap[w.heap.size + 1]? = some (.cells #[iV r.scanner, iV r.number, iV r.kind, iV r.time, sV r.label, .slice B r.contents.length d] 26 (0, 0))) := by
    have := heap_alloc_new (w.alloc (.cells #[iV r.scanner, iV r.number, iV r.kind, iV r.time, sV r.label, .slice A r.contents.length c] 26)) (.cells #[iV r.scanner, iV r.number, iV r.kind, iV r.time, sV r.label, .slice B r.contents.length d] 26)
    rwa [World.size_alloc] at this
  have HZ2 := Lib.hid hz2; clear hz2
  go_enter Try.func55, Try.ntmps55
  go_wp2
  obtain ⟨W, hW⟩ : ∃ W, ((w.alloc (.cells #[iV r.scanner, iV r.number, iV r.kind, iV r.time, sV r.label, .slice A r.contents.length c] 26)).alloc (.cells #[iV r.scanner, iV r.number, iV r.kind, iV r.time, sV r.label, .slice B r.contents.length d] 26)) = W := ⟨_, rfl⟩
  rw [hW] at hb2 HZ2 g1 g2 ⊢
  clear hW
  have u0 : W.cell? ⟨w.heap.size, 0, none⟩ = some (iV r.scanner) := cell_of_row _ _ 0 _ _ _ g1.out
  have u1 : W.cell? ⟨w.heap.size, 1, none⟩ = some (iV r.number) := cell_of_row _ _ 1 _ _ _ g1.out
  have u2 : W.cell? ⟨w.heap.size, 2, none⟩ = some (iV r.kind) := cell_of_row _ _ 2 _ _ _ g1.out
  have u3 : W.cell? ⟨w.heap.size, 3, none⟩ = some (iV r.time) := cell_of_row _ _ 3 _ _ _ g1.out
  have u4 : W.cell? ⟨w.heap.size, 4, none⟩ = some (sV r.label) := cell_of_row _ _ 4 _ _ _ g1.out
  have u5 : W.cell? ⟨w.heap.size, 5, none⟩ = some (.slice A r.contents.length c) := cell_of_row _ _ 5 _ _ _ g1.out
  have v0 : W.cell? ⟨w.heap.size + 1, 0, none⟩ = some (iV r.scanner) := cell_of_row _ _ 0 _ _ _ g2.out
  have v1 : W.cell? ⟨w.heap.size + 1, 1, none⟩ = some (iV r.number) := cell_of_row _ _ 1 _ _ _ g2.out
  have v2 : W.cell? ⟨w.heap.size + 1, 2, none⟩ = some (iV r.kind) := cell_of_row _ _ 2 _ _ _ g2.out
  have v3 : W.cell? ⟨w.heap.size + 1, 3, none⟩ = some (iV r.time) := cell_of_row _ _ 3 _ _ _ g2.out
  have v4 : W.cell? ⟨w.heap.size + 1, 4, none⟩ = some (sV r.label) := cell_of_row _ _ 4 _ _ _ g2.out
  have v5 : W.cell? ⟨w.heap.size + 1, 5, none⟩ = some (.slice B r.contents.length d) := cell_of_row _ _ 5 _ _ _ g2.out
  go_region_held3 (fun w' => w'.cell? ⟨w.heap.size, 0, none⟩ = some (iV r.scanner) ∧ w'.cell? ⟨w.heap.size, 1, none⟩ = some (iV r.number) ∧ w'.cell? ⟨w.heap.size, 2, none⟩ = some (iV r.kind) ∧ w'.cell? ⟨w.heap.size, 3, none⟩ = some (iV r.time) ∧ w'.cell? ⟨w.heap.size, 4, none⟩ = some (sV r.label) ∧ w'.cell? ⟨w.heap.size, 5, none⟩ = some (.slice A r.contents.length c) ∧ w'.cell? ⟨w.heap.size + 1, 0, none⟩ = some (iV r.scanner) ∧ w'.cell? ⟨w.heap.size + 1, 1, none⟩ = some (iV r.number) ∧ w'.cell? ⟨w.heap.size + 1, 2, none⟩ = some (iV r.kind) ∧ w'.cell? ⟨w.heap.size + 1, 3, none⟩ = some (iV r.time) ∧ w'.cell? ⟨w.heap.size + 1, 4, none⟩ = some (sV r.label) ∧ w'.cell? ⟨w.heap.size + 1, 5, none⟩ = some (.slice B r.contents.length d))
    (first | go_keep)
    (first
      | (go_at_call 71; refine (numbers_same _ _).mono ?_; rintro e w3 ⟨rfl, rfl⟩)
      | (go_at_call 72; refine (texts_same _ _).mono ?_; rintro e w3 ⟨rfl, rfl⟩))
  go_wp2
  obtain ⟨W3, hW3⟩ : ∃ W3, (W.alloc (.cells #[iV 0, iV 0, iV 0, iV 0, iV 0, iV 0] 3)).drew = W3 := ⟨_, rfl⟩
  rw [hW3]
  have hg3 : W3.heap[W.heap.size]? = some (.cells #[iV 0, iV 0, iV 0, iV 0, iV 0, iV 0] 3 (0, 0)) := by rw [← hW3]; exact heap_alloc_new _ _
  have hz : Hid (∀ k, k < 6 → W3.cell? ⟨W.heap.size, k, none⟩ = some (iV 0)) := by
    intro k hk
    rw [cell_of_row _ _ k _ _ _ hg3]
    have : k = 0 ∨ k = 1 ∨ k = 2 ∨ k = 3 ∨ k = 4 ∨ k = 5 := by omega
    rcases this with rfl | rfl | rfl | rfl | rfl | rfl <;> rfl
  have hb3 : Hid (Below W.heap.size W W3) := by rw [← hW3]; exact ((Below.refl _ W).alloc (Nat.le_refl _) _).drew
  have hb4 : Hid (Below w.heap.size w W3) := hb2.out.trans (hb3.out.mono hb2.out.size)
  have q1 : W3.cell? ⟨w.heap.size, 5, none⟩ = some (.slice A r.contents.length c) := (hb3.out.cell (p := ⟨w.heap.size, 5, none⟩) (block_lt g1.out)).trans u5
  have q2 : W3.cell? ⟨w.heap.size + 1, 5, none⟩ = some (.slice B r.contents.length d) := (hb3.out.cell (p := ⟨w.heap.size + 1, 5, none⟩) (block_lt g2.out)).trans v5
  clear hW3 hg3 u0 u1 u2 u3 u4 u5 v0 v1 v2 v3 v4 v5
  go_loop [6] (fun i => ∃ k : Nat, k ≤ 6 ∧ i = iV k) (fun i => 6 - (intOf i).toNat)
  case atStart => exact ⟨0, Nat.zero_le _, rfl⟩
  case round =>
    obtain ⟨k, hk, rfl⟩ := hrel
    by_cases hlt : k < 6
    · have z1 := hz.out k hlt
      have i1 : (k : Int) < 6 := by omega
      go_wp2
      go_round
      case rel => exact ⟨k + 1, by omega, by go_num⟩
      case measure => simp [intOf]; omega
    · obtain rfl : k = 6 := by omega
      go_wp2
      go_loopw [7, 8] (fun i _ wr => ∃ k n : Nat, k ≤ r.contents.length ∧ i = iV k ∧ wr = W3.drewN n) (fun i _ _ => r.contents.length - (intOf i).toNat)
      case atStart => exact ⟨0, 0, Nat.zero_le _, rfl, rfl⟩
      case round =>
        obtain ⟨k, n, hk, rfl, rfl⟩ := hrel
        by_cases hlt : k < r.contents.length
        · have HA3 := HA.out.below hb4.out
          have HB3 := HB.out.below hb4.out
          obtain ⟨b1, o1, rfl, hb1, hc1⟩ := HA3.get (i := k) (by simpa using hlt)
          obtain ⟨b2, o2, rfl, hb2, hc2⟩ := HB3.get (i := k) (by simpa using hlt)
          have k1 : W3.cell? ⟨b1, o1 + k, none⟩ = some (sV r.contents[k]) := hc1 k _ (by rw [List.getElem?_map, List.getElem?_eq_getElem hlt]; rfl)
          have k2 : W3.cell? ⟨b2, o2 + k, none⟩ = some (sV r.contents[k]) := hc2 k _ (by rw [List.getElem?_map, List.getElem?_eq_getElem hlt]; rfl)
          clear hc1 hc2 HA3 HB3
          have i1 : (0 : Int) ≤ (k : Int) := by omega
          have i2 : (k : Int) < (r.contents.length : Int) := by omega
          obtain ⟨x, hx⟩ : ∃ x, x = r.contents[k] := ⟨_, rfl⟩
          rw [← hx] at k1 k2
          clear hx
          go_wp2
          go_quiet ((go_at_call 72; first | exact quiet_left (texts_same _ _) | exact quiet_add_left (texts_same _ _) | exact Calls.quiet_of_same (texts_same _ _)))
          go_wp2
          go_roundw
          case rel => exact ⟨k + 1, _, by omega, by go_num, rfl⟩
          case measure => simp [intOf]; omega
        · obtain rfl : k = r.contents.length := by omega
          go_wp2
          go_ret
          exact ⟨rfl, below_drewN hb4.out _⟩
end Go.Proofs.Ytoaembpakmpolaa
