/-
  The walk over JournalMatchesReference. (Written by a program: wip/jou/gen_lawref.py.)
-/
import Derived.Test.YtoaembpakmpolaaJouOpenLog
import Derived.Test.YtoaembpakmpolaaJouRef9
import Derived.Test.YtoaembpakmpolaaJouRef11
namespace Go.Proofs.Ytoaembpakmpolaa
open Go.RowKit Jou
attribute [local go_sem] ba_get ba_extract ba_append

theorem txtsB_bound (m : Nat) : ∀ ss : List (List UInt8), (∀ s ∈ ss, s.length ≤ m) → (txtsB ss).length ≤ ss.length * (m + 2)
  | [], _ => Nat.zero_le _
  | s :: ss, h => by
    have ih := txtsB_bound m ss (fun x hx => h x (List.mem_cons_of_mem _ hx))
    have h1 := h s (List.mem_cons_self ..)
    have e : txtsB (s :: ss) = txtB s ++ txtsB ss := by simp [txtsB]
    rw [e, List.length_append, txtB_len, List.length_cons, Nat.succ_mul]
    omega
theorem short_log {e : Log} (h : LShort e) : Tells e ∧ (logB e).length ≤ 1000000 := by
  obtain ⟨h1, h2, ⟨h3, h4, h5⟩, h6, h7, h8, h9⟩ := h
  refine ⟨⟨by omega, by omega, ⟨by omega, by omega, fun s hs => by have := h5 s hs; omega⟩, ⟨by omega, by omega, by omega⟩, by omega⟩, ?_⟩
  have hb := txtsB_bound 40 _ h5
  have hb2 : e.rcd.contents.length * (40 + 2) ≤ 50 * 42 := Nat.mul_le_mul_right _ h4
  unfold logB postB recB paperB
  simp only [List.length_append, txtB_len, numsB_len, lenB_len, List.length_cons, List.length_nil]
  omega
theorem row_res {base : Nat} {w' : World} {x : Ending} {o : Option (List UInt8)} {L : List UInt8} (hL : L = o.getD []) (h : RowRes base w' x o) : ∃ A c, x = .returned (.slice A L.length c) ∧ Rd w' A (L.map bV) := by
  subst hL
  cases o with
  | none => exact ⟨none, 0, h, Rd.nil _ _⟩
  | some l =>
    obtain ⟨A, c, rfl, ho⟩ := h
    exact ⟨A, c, rfl, own_rd ho⟩
theorem bytes_same (l : List UInt8) (A B : Option Addr) (c d : Nat) (w : World) (hA : Rd w A (l.map bV)) (hB : Rd w B (l.map bV)) (hl : l.length ≤ maxLen) :
    Calls Try.prog 18 #[.slice A l.length c, .slice B l.length d] w (Quiet w (.bool true)) := by
  have := bytes_any l l A B c d w hA hB hl
  rwa [decide_eq_true rfl] at this
theorem dec_lens (b : List UInt8) : (decodeR b).1.rcd.contents.length ≤ maxLen ∧ (decodeR b).1.paper.path.length ≤ maxLen := by
  unfold decodeR
  cases h : Jou.decode b with
  | none => exact ⟨Nat.zero_le _, Nat.zero_le _⟩
  | some d =>
    have := enc_dec h
    unfold maxLen
    exact ⟨by simp only; omega, by simp only; omega⟩
theorem rng_of {w : World} {X : Nat} {cs : Array Value} (h : w.heap[X]? = some (.cells cs 37 (0, 0))) : w.rangeAt X 0 cs.toList := fun j v hv => by
  rw [cell_of_row w X (0 + j) cs 37 (0, 0) h, Nat.zero_add]
  simpa using hv
theorem lists_len (j : List UInt8) : (recs j).length ≤ maxLen := by have := recs_le j; unfold maxLen; omega
theorem rdl_of' {w w' : World} {A : Option Addr} {c : Nat} {rows : List Sl} {l : List (List UInt8)} (hr : rows.map (·.2.2) = l) (h1 : w'.ownsRow w.heap.size 38 1 (.slice A rows.length c) rows.length (rows.map slV)) (h2 : ∀ r ∈ rows, Rd w r.1 (r.2.2.map bV) ∧ Low w.heap.size r.1 ∧ r.2.2.length ≤ r.2.1 ∧ r.2.1 ≤ maxLen) (hb : Below w.heap.size w w') : RdL w' A l :=
  ⟨rows, hr, own_rd h1, fun r hr => ⟨(h2 r hr).1.below hb, (h2 r hr).2.1.mono hb.size, (h2 r hr).2.2⟩⟩
theorem rdl_of2 {w' : World} {base : Nat} {A : Option Addr} {c : Nat} {rows : List Sl} {l : List (List UInt8)} (hr : rows.map (·.2.2) = l) (h1 : w'.ownsRow base 38 1 (.slice A rows.length c) rows.length (rows.map slV)) (h2 : ∀ r ∈ rows, w'.ownsRow base 5 1 (slV r) r.2.2.length (r.2.2.map bV)) : RdL w' A l :=
  ⟨rows, hr, own_rd h1, fun r hr => ⟨own_rd (h2 r hr), fun a ha => (own_at (h2 r hr) a ha).2, (Bs.of_own (h2 r hr)).2.2⟩⟩
theorem log_put (w1 : World) (cs : Array Value) : ((w1.alloc (.cells zeroCells 37)).setRow w1.heap.size cs).heap[w1.heap.size]? = some (.cells cs 37 (0, 0)) ∧ Below w1.heap.size w1 ((w1.alloc (.cells zeroCells 37)).setRow w1.heap.size cs) :=
  (log_new (Below.refl w1.heap.size w1) cs).2
/-- An entry's box, its rows. -/
def Bx (X : Nat) (e : Log) (AC : Option Addr) (cc : Nat) (AP : Option Addr) (cp : Nat) (W : World) : Prop :=
  W.heap[X]? = some (.cells (logCells e AC cc AP cp) 37 (0, 0)) ∧ Rd W AC (e.rcd.contents.map sV) ∧ Rd W AP (e.paper.path.map iV)
theorem Bx.below {X : Nat} {e : Log} {AC : Option Addr} {cc : Nat} {AP : Option Addr} {cp : Nat} {W W' : World} (h : Bx X e AC cc AP cp W) (hb : Below W.heap.size W W') : Bx X e AC cc AP cp W' :=
  ⟨(hb.block _ (block_lt h.1)).trans h.1, h.2.1.below hb, h.2.2.below hb⟩
set_option maxHeartbeats 8000000 in
set_option maxRecDepth 100000 in
theorem matches_all (e : Log) (AC : Option Addr) (cc : Nat) (AP : Option Addr) (cp : Nat) (B : Option Addr) (d : Nat) (b : List UInt8) (D : Option Addr) (f : Nat) (j : List UInt8) (w : World) (hL : Lg w e AC AP) (hB : Bs w B d b) (hJ : Bs w D f j) :
    Calls Try.prog 3 #[.agg (logCells e AC cc AP cp), .slice B b.length d, .slice D j.length f] w fun x w' => x = .returned (.bool true) ∧ Below w.heap.size w w' := by
  have hbm : b.length ≤ 9223372036854775807 := by have := hB.2.2; unfold maxLen at this; omega
  have hjm : j.length ≤ 9223372036854775807 := by have := hJ.2.2; unfold maxLen at this; omega
  have HN0 := Lib.hid (ba w (.cells (logCells e AC cc AP cp) 37))
  have HX0 : Hid (Bx w.heap.size e AC cc AP cp (w.alloc (.cells (logCells e AC cc AP cp) 37))) := ⟨heap_alloc_new _ _, hL.2.1.below HN0.out, hL.2.2.1.below HN0.out⟩
  have HL0 := Lib.hid (hL.below HN0.out)
  have HB0 := Lib.hid (hB.below HN0.out)
  have HJ0 := Lib.hid (hJ.below HN0.out)
  clear hL hB hJ
  go_enter Try.func3, Try.ntmps3
  go_wp2_with fail
  refine (head_any _).mono ?_
  rintro x w1 ⟨rfl, hb⟩
  have HN1 := Lib.hid (HN0.out.trans (hb.mono HN0.out.size))
  have HX1 := Lib.hid (HX0.out.below hb)
  have HL1 := Lib.hid (HL0.out.below hb)
  have HB1 := Lib.hid (HB0.out.below hb)
  have HJ1 := Lib.hid (HJ0.out.below hb)
  clear hb HN0 HX0 HL0 HB0 HJ0
  go_wp2_with (first | (refine wpList_load_row (by rfl) 37 (.tmp 3) (by rfl) w.heap.size (by rfl) 37 (logCells e AC cc AP cp) (0, 0) _ HX1.out.1 Try.underlying37 rfl lgInf ?_) | fail)
  refine (short_any e AC AP cc cp _ HX1.out.2.1 HL1.out.1).mono ?_
  rintro x w2 ⟨bs, rfl, hP, hb⟩
  have HP := Lib.hid hP; clear hP
  have HN2 := Lib.hid (HN1.out.trans (hb.mono HN1.out.size))
  have HX2 := Lib.hid (HX1.out.below hb)
  have HL2 := Lib.hid (HL1.out.below hb)
  have HB2 := Lib.hid (HB1.out.below hb)
  have HJ2 := Lib.hid (HJ1.out.below hb)
  clear hb HN1 HX1 HL1 HB1 HJ1
  cases bs with
  | false =>
    go_wp2_with fail
    exact bodyPost_ret (v := .bool true) (by simp [results, Try.results3, go_sem]) rfl ⟨rfl, HN2.out⟩
  | true =>
  have HOK := Lib.hid (ok_of_in HL2.out.1 (HP.out rfl))
  have HTE := Lib.hid (short_log (HP.out rfl))
  by_cases h4 : 4000 < b.length
  · have g4 : (4000 : Int) < (b.length : Int) := by omega
    go_wp2_with fail
    all_goals exact bodyPost_ret (v := .bool true) (by simp [results, Try.results3, go_sem]) rfl ⟨rfl, HN2.out⟩
  have g4 : ¬ (4000 : Int) < (b.length : Int) := by omega
  by_cases h6 : 6000 < j.length
  · have g6 : (6000 : Int) < (j.length : Int) := by omega
    go_wp2_with fail
    all_goals exact bodyPost_ret (v := .bool true) (by simp [results, Try.results3, go_sem]) rfl ⟨rfl, HN2.out⟩
  have g6 : ¬ (6000 : Int) < (j.length : Int) := by omega
  obtain ⟨q, x, hqx⟩ : ∃ q x, decodeR b = (q, x) := ⟨_, _, rfl⟩
  have hql := dec_lens b
  rw [hqx] at hql
  have HQX := Lib.hid hqx; have HQL := Lib.hid hql; clear hqx hql
  obtain ⟨r, y, hry⟩ : ∃ r y, appendR j b = (r, y) := ⟨_, _, rfl⟩
  have HRY := Lib.hid hry; clear hry
  go_wp2_with fail
  all_goals try (exfalso; omega)
  refine (decode_any b B d _ HB2.out.1 HB2.out.2.1 HB2.out.2.2.1 HB2.out.2.2.2).mono ?_
  rintro z w3 ⟨hb, Ag, cg, Pg, pg, rfl, hC, hP, -, -⟩
  rw [HQX.out] at hC hP ⊢
  have HVg := Lib.hid (log_put w3 (logCells q Ag cg Pg pg))
  have HTg := Lib.hid (And.intro hC hP)
  have HN3 := Lib.hid (HN2.out.trans (hb.mono HN2.out.size))
  have HX3 := Lib.hid (HX2.out.below hb)
  have HL3 := Lib.hid (HL2.out.below hb)
  have HB3 := Lib.hid (HB2.out.below hb)
  have HJ3 := Lib.hid (HJ2.out.below hb)
  clear hC hP
  clear hb HN2 HX2 HL2 HB2 HJ2
  go_upto_region 5 with (first | (refine wpList_store_row (by rfl) 37 (.tmp 8) (.tmp 38) (by rfl) w3.heap.size (logCells q Ag cg Pg pg) (by rfl) (by rfl) 37 zeroCells (heap_alloc_new _ _) lgInf rfl (logCells_one _ _ _ _ _) ?_) | fail)
  have HDg4 : Hid (Bx w3.heap.size q Ag cg Pg pg ((w3.alloc (.cells zeroCells 37)).setRow w3.heap.size (logCells q Ag cg Pg pg))) := ⟨HVg.out.1, HTg.out.1.below HVg.out.2, HTg.out.2.below HVg.out.2⟩
  have hb := HVg.out.2
  have HN4 := Lib.hid (HN3.out.trans (hb.mono HN3.out.size))
  have HX4 := Lib.hid (HX3.out.below hb)
  have HL4 := Lib.hid (HL3.out.below hb)
  have HB4 := Lib.hid (HB3.out.below hb)
  have HJ4 := Lib.hid (HJ3.out.below hb)
  clear hb HN3 HX3 HL3 HB3 HJ3
  clear HVg HTg
  change Code.wp _ _ _ _ ((w3.alloc (.cells zeroCells 37)).setRow w3.heap.size (logCells q Ag cg Pg pg))
  generalize ((w3.alloc (.cells zeroCells 37)).setRow w3.heap.size (logCells q Ag cg Pg pg)) = w4 at *
  generalize w3.heap.size = Xg at *
  go_wp2_with fail
  all_goals try (exfalso; omega)
  refine (fdecode_any b B d _ HB4.out.1 HB4.out.2.1 (by omega)).mono ?_
  rintro z w5 ⟨hb, Ah, ch, Ph, ph, rfl, hC, hP, -, -⟩
  rw [HQX.out] at hC hP ⊢
  have HVh := Lib.hid (log_put w5 (logCells q Ah ch Ph ph))
  have HTh := Lib.hid (And.intro hC hP)
  have HN5 := Lib.hid (HN4.out.trans (hb.mono HN4.out.size))
  have HX5 := Lib.hid (HX4.out.below hb)
  have HL5 := Lib.hid (HL4.out.below hb)
  have HB5 := Lib.hid (HB4.out.below hb)
  have HJ5 := Lib.hid (HJ4.out.below hb)
  have HDg5 := Lib.hid (HDg4.out.below hb)
  clear hC hP
  clear hb HN4 HX4 HL4 HB4 HJ4 HDg4
  go_upto_region 6 with (first | (refine wpList_store_row (by rfl) 37 (.tmp 10) (.tmp 43) (by rfl) w5.heap.size (logCells q Ah ch Ph ph) (by rfl) (by rfl) 37 zeroCells (heap_alloc_new _ _) lgInf rfl (logCells_one _ _ _ _ _) ?_) | fail)
  have HDh6 : Hid (Bx w5.heap.size q Ah ch Ph ph ((w5.alloc (.cells zeroCells 37)).setRow w5.heap.size (logCells q Ah ch Ph ph))) := ⟨HVh.out.1, HTh.out.1.below HVh.out.2, HTh.out.2.below HVh.out.2⟩
  have hb := HVh.out.2
  have HN6 := Lib.hid (HN5.out.trans (hb.mono HN5.out.size))
  have HX6 := Lib.hid (HX5.out.below hb)
  have HL6 := Lib.hid (HL5.out.below hb)
  have HB6 := Lib.hid (HB5.out.below hb)
  have HJ6 := Lib.hid (HJ5.out.below hb)
  have HDg6 := Lib.hid (HDg5.out.below hb)
  clear hb HN5 HX5 HL5 HB5 HJ5 HDg5
  clear HVh HTh
  change Code.wp _ _ _ _ ((w5.alloc (.cells zeroCells 37)).setRow w5.heap.size (logCells q Ah ch Ph ph))
  generalize ((w5.alloc (.cells zeroCells 37)).setRow w5.heap.size (logCells q Ah ch Ph ph)) = w6 at *
  generalize w5.heap.size = Xh at *
  go_wp2_with fail
  refine (append_any j b D B f d _ HJ6.out.1 HJ6.out.2.1 HB6.out.1 HB6.out.2.1 HJ6.out.2.2.1 HJ6.out.2.2.2 (by omega) (by unfold maxLen; omega)).mono ?_
  rintro z w7 ⟨Ak, ck, rfl, ho, hb⟩
  rw [HRY.out] at ho ⊢
  have HKk7 := Lib.hid (Bs.of_own ho)
  have HN7 := Lib.hid (HN6.out.trans (hb.mono HN6.out.size))
  have HX7 := Lib.hid (HX6.out.below hb)
  have HL7 := Lib.hid (HL6.out.below hb)
  have HB7 := Lib.hid (HB6.out.below hb)
  have HJ7 := Lib.hid (HJ6.out.below hb)
  have HDg7 := Lib.hid (HDg6.out.below hb)
  have HDh7 := Lib.hid (HDh6.out.below hb)
  clear ho
  clear hb HN6 HX6 HL6 HB6 HJ6 HDg6 HDh6
  go_upto_region 7 with fail
  go_wp2_with fail
  refine (fappend_any j b D B f d _ HJ7.out.1 HB7.out.1 HJ7.out.2.2.1 HJ7.out.2.2.2 (by omega) (by unfold maxLen; omega)).mono ?_
  rintro z w8 ⟨Am, cm, rfl, ho, hb⟩
  rw [HRY.out] at ho ⊢
  have HKm8 := Lib.hid (Bs.of_own ho)
  have HN8 := Lib.hid (HN7.out.trans (hb.mono HN7.out.size))
  have HX8 := Lib.hid (HX7.out.below hb)
  have HL8 := Lib.hid (HL7.out.below hb)
  have HB8 := Lib.hid (HB7.out.below hb)
  have HJ8 := Lib.hid (HJ7.out.below hb)
  have HDg8 := Lib.hid (HDg7.out.below hb)
  have HDh8 := Lib.hid (HDh7.out.below hb)
  have HKk8 := Lib.hid (HKk7.out.below hb)
  clear ho
  clear hb HN7 HX7 HL7 HB7 HJ7 HDg7 HDh7 HKk7
  go_upto_region 8 with fail
  have hrl := lists_len j
  have HRL := Lib.hid hrl; clear hrl
  obtain ⟨rs, hrs⟩ : ∃ rs, rs = recs j := ⟨_, rfl⟩
  have HRS := Lib.hid hrs; clear hrs
  go_wp2_with fail
  refine (records_all j D f _ HJ8.out.1 HJ8.out.2.1 HJ8.out.2.2.1 HJ8.out.2.2.2 (by omega)).mono ?_
  rintro z w9 ⟨rowsl, Al, cl, hrw, rfl, ho, hoo, hb⟩
  have HSl9 : Hid (RdL w9 Al rs) := rdl_of2 (hrw.trans HRS.out.symm) ho hoo
  have hll : rowsl.length = rs.length := by rw [HRS.out, ← hrw, List.length_map]
  rw [hll]
  have HN9 := Lib.hid (HN8.out.trans (hb.mono HN8.out.size))
  have HX9 := Lib.hid (HX8.out.below hb)
  have HL9 := Lib.hid (HL8.out.below hb)
  have HB9 := Lib.hid (HB8.out.below hb)
  have HJ9 := Lib.hid (HJ8.out.below hb)
  have HDg9 := Lib.hid (HDg8.out.below hb)
  have HDh9 := Lib.hid (HDh8.out.below hb)
  have HKk9 := Lib.hid (HKk8.out.below hb)
  have HKm9 := Lib.hid (HKm8.out.below hb)
  clear ho hoo hrw hll
  clear hb HN8 HX8 HL8 HB8 HJ8 HDg8 HDh8 HKk8 HKm8
  go_upto_region 9 with fail
  go_wp2_with fail
  refine (frecords_any j D f _ HJ9.out.1 HJ9.out.2.2.1 HJ9.out.2.2.2 (by omega)).mono ?_
  rintro z w10 ⟨rowso, Ao, co, hrw, rfl, ho, hoo, hb⟩
  have HSo10 : Hid (RdL w10 Ao rs) := rdl_of' (hrw.trans HRS.out.symm) ho hoo hb
  have hll : rowso.length = rs.length := by rw [HRS.out, ← hrw, List.length_map]
  rw [hll]
  have HN10 := Lib.hid (HN9.out.trans (hb.mono HN9.out.size))
  have HX10 := Lib.hid (HX9.out.below hb)
  have HL10 := Lib.hid (HL9.out.below hb)
  have HB10 := Lib.hid (HB9.out.below hb)
  have HJ10 := Lib.hid (HJ9.out.below hb)
  have HDg10 := Lib.hid (HDg9.out.below hb)
  have HDh10 := Lib.hid (HDh9.out.below hb)
  have HKk10 := Lib.hid (HKk9.out.below hb)
  have HKm10 := Lib.hid (HKm9.out.below hb)
  have HSl10 := Lib.hid (HSl9.out.below hb)
  clear ho hoo hrw hll
  clear hb HN9 HX9 HL9 HB9 HJ9 HDg9 HDh9 HKk9 HKm9 HSl9
  go_upto_region 10 with fail
  generalize (offs (recs j) (recs j).length) = at_ at *
  obtain ⟨L, hL⟩ : ∃ L, L = (encode e).getD [] := ⟨_, rfl⟩
  have hLL : L.length ≤ maxLen := by
    rw [hL]
    cases he : encode e with
    | none => exact Nat.zero_le _
    | some c =>
      have h1 : logW e = some c := by
        unfold encode at he
        split at he
        · cases he
        · exact he
      have := ((logW_iff e c).1 h1).2.2
      unfold maxLen
      simp only [Option.getD_some]
      omega
  have HLL := Lib.hid hLL; have HLE := Lib.hid hL; clear hL hLL
  have hrm : r.length ≤ maxLen := Nat.le_trans HKm10.out.2.2.1 HKm10.out.2.2.2
  have HRM := Lib.hid hrm; clear hrm
  have HRL2 : Hid (rs.length ≤ maxLen) := by show _ ≤ _; rw [HRS.out]; exact HRL.out
  have HRNG : Hid (∀ w', Below w10.heap.size w10 w' → w'.rangeAt w.heap.size 0 (logCells e AC cc AP cp).toList ∧ w'.rangeAt Xg 0 (logCells q Ag cg Pg pg).toList ∧ w'.rangeAt Xh 0 (logCells q Ah ch Ph ph).toList) := fun w' h =>
    ⟨rng_of (HX10.out.below h).1, rng_of (HDg10.out.below h).1, rng_of (HDh10.out.below h).1⟩
  refine wp_region_noPanic ?_
  refine wp_region_held_drew (S := (fun w' => w'.rangeAt w.heap.size 0 (logCells e AC cc AP cp).toList ∧ w'.rangeAt Xg 0 (logCells q Ag cg Pg pg).toList ∧ w'.rangeAt Xh 0 (logCells q Ah ch Ph ph).toList)) (by kernel_rfl) (HRNG.out _ ((b_drew (Below.refl w10.heap.size w10)))) (fun hHeld => ?_)
  refine wpAnyH_take (i := 0) (v := ?_) rfl (by kernel_rfl) (by kernel_rfl) (by kernel_rfl) (fun _ _ _ h => h) (Or.inl ⟨by kernel_rfl, ?_⟩) (by assumption) ?_
  rotate_left
  · (intro w hSw; (try dsimp only at hSw); go_simp; (try with_reducible rfl))
  try simp only [Act.put, List.getElem_toArray, List.getElem_cons_succ, List.getElem_cons_zero, List.setIfInBounds_toArray, List.set_cons_zero, List.set_cons_succ]
  refine wpAnyH_take (i := 1) (v := ?_) rfl (by kernel_rfl) (by kernel_rfl) (by kernel_rfl) (fun _ _ _ h => h) (Or.inl ⟨by kernel_rfl, ?_⟩) (by assumption) ?_
  rotate_left
  · (intro w hSw; (try dsimp only at hSw); go_simp; (try with_reducible rfl))
  try simp only [Act.put, List.getElem_toArray, List.getElem_cons_succ, List.getElem_cons_zero, List.setIfInBounds_toArray, List.set_cons_zero, List.set_cons_succ]
  refine wpAnyH_take (i := 2) (v := .agg (logCells e AC cc AP cp)) rfl (by kernel_rfl) (by kernel_rfl) (by kernel_rfl) (fun _ _ _ h => h) (yieldsIf_load_mid (by kernel_rfl) 37 (.tmp 3) (by rfl) (w.heap.size) 0 (by rfl) (logCells e AC cc AP cp).toList _ (fun _ h => h.1) Try.underlying37 rfl lgInf) (by assumption) ?_
  try simp only [Act.put, List.getElem_toArray, List.getElem_cons_succ, List.getElem_cons_zero, List.setIfInBounds_toArray, List.set_cons_zero, List.set_cons_succ]
  refine wpAnyH_take (i := 4) (v := .agg (logCells e AC cc AP cp)) rfl (by kernel_rfl) (by kernel_rfl) (by kernel_rfl) (fun _ _ _ h => h) (yieldsIf_load_mid (by kernel_rfl) 37 (.tmp 3) (by rfl) (w.heap.size) 0 (by rfl) (logCells e AC cc AP cp).toList _ (fun _ h => h.1) Try.underlying37 rfl lgInf) (by assumption) ?_
  try simp only [Act.put, List.getElem_toArray, List.getElem_cons_succ, List.getElem_cons_zero, List.setIfInBounds_toArray, List.set_cons_zero, List.set_cons_succ]
  refine wpAnyH_ready (rs := [3]) (by kernel_rfl) (by simp) ?_
  refine AllReadyH.cons rfl (fun K hK => ?_) AllReadyH.nil
  go_simp
  refine (encode_any e AC cc AP cp _ HOK.out (HX10.out.below ((b_drew (Below.refl w10.heap.size w10)))).2.1 (HX10.out.below ((b_drew (Below.refl w10.heap.size w10)))).2.2 (HL10.out.below ((b_drew (Below.refl w10.heap.size w10)))).2.2.2.1 (HL10.out.below ((b_drew (Below.refl w10.heap.size w10)))).2.2.2.2).mono ?_
  rintro z v1 ⟨hb, hres⟩
  obtain ⟨A1, c1, rfl, hrd⟩ := row_res HLE.out hres
  have HM1 := Lib.hid (((b_drew (Below.refl w10.heap.size w10))).trans (hb.mono ((b_drew (Below.refl w10.heap.size w10))).size))
  have HE1 := Lib.hid hrd
  clear hb hres hrd
  go_wp2_with fail
  refine hK.out _ _ (HRNG.out _ (HM1.out)) (fun hHeld => ?_)
  clear hK K
  try simp only [Act.put, List.getElem_toArray, List.getElem_cons_succ, List.getElem_cons_zero, List.setIfInBounds_toArray, List.set_cons_zero, List.set_cons_succ]
  refine wpAnyH_ready (rs := [5]) (by kernel_rfl) (by simp) ?_
  refine AllReadyH.cons rfl (fun K hK => ?_) AllReadyH.nil
  go_simp
  refine (fencode_any e AC cc AP cp _ HOK.out (HX10.out.below (HM1.out)).2.1 (HX10.out.below (HM1.out)).2.2 HTE.out.1 HTE.out.2).mono ?_
  rintro z v2 ⟨hb, hres⟩
  obtain ⟨A2, c2, rfl, hrd⟩ := row_res HLE.out hres
  have HM2 := Lib.hid ((HM1.out).trans (hb.mono (HM1.out).size))
  have HE2 := Lib.hid hrd
  have HE12 := Lib.hid (HE1.out.below hb)
  clear hb hres hrd
  go_wp2_with fail
  refine hK.out _ _ (HRNG.out _ (HM2.out)) (fun hHeld => ?_)
  clear hK K
  try simp only [Act.put, List.getElem_toArray, List.getElem_cons_succ, List.getElem_cons_zero, List.setIfInBounds_toArray, List.set_cons_zero, List.set_cons_succ]
  refine wpAnyH_ready (rs := [6]) (by kernel_rfl) (by simp) ?_
  refine AllReadyH.cons rfl (fun K hK => ?_) AllReadyH.nil
  go_simp
  refine (bytes_same L A1 A2 c1 c2 _ HE12.out HE2.out HLL.out).mono ?_
  rintro z v3 ⟨rfl, m3, rfl⟩
  have HM3 := Lib.hid (below_drewN (HM2.out) m3)
  go_wp2_with fail
  refine hK.out _ _ (HRNG.out _ (HM3.out)) (fun hHeld => ?_)
  clear hK K
  try simp only [Act.put, List.getElem_toArray, List.getElem_cons_succ, List.getElem_cons_zero, List.setIfInBounds_toArray, List.set_cons_zero, List.set_cons_succ]
  refine wpAnyH_take (i := 7) (v := ?_) rfl (by kernel_rfl) (by kernel_rfl) (by kernel_rfl) (fun _ _ _ h => h) (Or.inl ⟨by kernel_rfl, ?_⟩) (by assumption) ?_
  rotate_left
  · (intro w hSw; (try dsimp only at hSw); go_simp; (try with_reducible rfl))
  try simp only [Act.put, List.getElem_toArray, List.getElem_cons_succ, List.getElem_cons_zero, List.setIfInBounds_toArray, List.set_cons_zero, List.set_cons_succ]
  refine wpAnyH_take (i := 8) (v := ?_) rfl (by kernel_rfl) (by kernel_rfl) (by kernel_rfl) (fun _ _ _ h => h) (Or.inl ⟨by kernel_rfl, ?_⟩) (by assumption) ?_
  rotate_left
  · (intro w hSw; (try dsimp only at hSw); go_simp; (try with_reducible rfl))
  try simp only [Act.put, List.getElem_toArray, List.getElem_cons_succ, List.getElem_cons_zero, List.setIfInBounds_toArray, List.set_cons_zero, List.set_cons_succ]
  refine wpAnyH_take (i := 9) (v := ?_) rfl (by kernel_rfl) (by kernel_rfl) (by kernel_rfl) (fun _ _ _ h => h) (Or.inl ⟨by kernel_rfl, ?_⟩) (by assumption) ?_
  rotate_left
  · (intro w hSw; (try dsimp only at hSw); go_simp; (try with_reducible rfl))
  try simp only [Act.put, List.getElem_toArray, List.getElem_cons_succ, List.getElem_cons_zero, List.setIfInBounds_toArray, List.set_cons_zero, List.set_cons_succ]
  refine wpAnyH_take (i := 10) (v := ?_) rfl (by kernel_rfl) (by kernel_rfl) (by kernel_rfl) (fun _ _ _ h => h) (Or.inl ⟨by kernel_rfl, ?_⟩) (by assumption) ?_
  rotate_left
  · (intro w hSw; (try dsimp only at hSw); go_simp; (try with_reducible rfl))
  try simp only [Act.put, List.getElem_toArray, List.getElem_cons_succ, List.getElem_cons_zero, List.setIfInBounds_toArray, List.set_cons_zero, List.set_cons_succ]
  refine wpAnyH_take (i := 11) (v := ?_) rfl (by kernel_rfl) (by kernel_rfl) (by kernel_rfl) (fun _ _ _ h => h) (Or.inl ⟨by kernel_rfl, ?_⟩) (by assumption) ?_
  rotate_left
  · (intro w hSw; (try dsimp only at hSw); go_simp; (try with_reducible rfl))
  try simp only [Act.put, List.getElem_toArray, List.getElem_cons_succ, List.getElem_cons_zero, List.setIfInBounds_toArray, List.set_cons_zero, List.set_cons_succ]
  refine wpAnyH_take (i := 12) (v := ?_) rfl (by kernel_rfl) (by kernel_rfl) (by kernel_rfl) (fun _ _ _ h => h) (Or.inl ⟨by kernel_rfl, ?_⟩) (by assumption) ?_
  rotate_left
  · (intro w hSw; (try dsimp only at hSw); go_simp; (try with_reducible rfl))
  try simp only [Act.put, List.getElem_toArray, List.getElem_cons_succ, List.getElem_cons_zero, List.setIfInBounds_toArray, List.set_cons_zero, List.set_cons_succ]
  refine wpAnyH_take (i := 13) (v := ?_) rfl (by kernel_rfl) (by kernel_rfl) (by kernel_rfl) (fun _ _ _ h => h) (Or.inl ⟨by kernel_rfl, ?_⟩) (by assumption) ?_
  rotate_left
  · (intro w hSw; (try dsimp only at hSw); go_simp; (try with_reducible rfl))
  try simp only [Act.put, List.getElem_toArray, List.getElem_cons_succ, List.getElem_cons_zero, List.setIfInBounds_toArray, List.set_cons_zero, List.set_cons_succ]
  refine wpAnyH_take (i := 14) (v := .agg (logCells q Ag cg Pg pg)) rfl (by kernel_rfl) (by kernel_rfl) (by kernel_rfl) (fun _ _ _ h => h) (yieldsIf_load_mid (by kernel_rfl) 37 (.tmp 8) (by rfl) (Xg) 0 (by rfl) (logCells q Ag cg Pg pg).toList _ (fun _ h => h.2.1) Try.underlying37 rfl lgInf) (by assumption) ?_
  try simp only [Act.put, List.getElem_toArray, List.getElem_cons_succ, List.getElem_cons_zero, List.setIfInBounds_toArray, List.set_cons_zero, List.set_cons_succ]
  refine wpAnyH_take (i := 15) (v := .agg (logCells q Ah ch Ph ph)) rfl (by kernel_rfl) (by kernel_rfl) (by kernel_rfl) (fun _ _ _ h => h) (yieldsIf_load_mid (by kernel_rfl) 37 (.tmp 10) (by rfl) (Xh) 0 (by rfl) (logCells q Ah ch Ph ph).toList _ (fun _ h => h.2.2) Try.underlying37 rfl lgInf) (by assumption) ?_
  try simp only [Act.put, List.getElem_toArray, List.getElem_cons_succ, List.getElem_cons_zero, List.setIfInBounds_toArray, List.set_cons_zero, List.set_cons_succ]
  refine wpAnyH_ready (rs := [16]) (by kernel_rfl) (by simp) ?_
  refine AllReadyH.cons rfl (fun K hK => ?_) AllReadyH.nil
  go_simp
  refine (same_same q Ag Pg Ah Ph cg pg ch ph _ (HDg10.out.below (HM3.out)).2.1 (HDh10.out.below (HM3.out)).2.1 (HDg10.out.below (HM3.out)).2.2 (HDh10.out.below (HM3.out)).2.2 HQL.out.1 HQL.out.2).mono ?_
  rintro z v4 ⟨rfl, hb⟩
  have HM4 := Lib.hid ((HM3.out).trans (hb.mono (HM3.out).size))
  clear hb
  go_wp2_with fail
  refine hK.out _ _ (HRNG.out _ (HM4.out)) (fun hHeld => ?_)
  clear hK K
  try simp only [Act.put, List.getElem_toArray, List.getElem_cons_succ, List.getElem_cons_zero, List.setIfInBounds_toArray, List.set_cons_zero, List.set_cons_succ]
  refine wpAnyH_take (i := 17) (v := ?_) rfl (by kernel_rfl) (by kernel_rfl) (by kernel_rfl) (fun _ _ _ h => h) (Or.inl ⟨by kernel_rfl, ?_⟩) (by assumption) ?_
  rotate_left
  · (intro w hSw; (try dsimp only at hSw); go_simp; (try with_reducible rfl))
  try simp only [Act.put, List.getElem_toArray, List.getElem_cons_succ, List.getElem_cons_zero, List.setIfInBounds_toArray, List.set_cons_zero, List.set_cons_succ]
  refine wpAnyH_take (i := 18) (v := ?_) rfl (by kernel_rfl) (by kernel_rfl) (by kernel_rfl) (fun _ _ _ h => h) (Or.inl ⟨by kernel_rfl, ?_⟩) (by assumption) ?_
  rotate_left
  · (intro w hSw; (try dsimp only at hSw); go_simp; (try with_reducible rfl))
  try simp only [Act.put, List.getElem_toArray, List.getElem_cons_succ, List.getElem_cons_zero, List.setIfInBounds_toArray, List.set_cons_zero, List.set_cons_succ]
  refine wpAnyH_take (i := 19) (v := ?_) rfl (by kernel_rfl) (by kernel_rfl) (by kernel_rfl) (fun _ _ _ h => h) (Or.inl ⟨by kernel_rfl, ?_⟩) (by assumption) ?_
  rotate_left
  · (intro w hSw; (try dsimp only at hSw); go_simp; (try with_reducible rfl))
  try simp only [Act.put, List.getElem_toArray, List.getElem_cons_succ, List.getElem_cons_zero, List.setIfInBounds_toArray, List.set_cons_zero, List.set_cons_succ]
  refine wpAnyH_take (i := 20) (v := ?_) rfl (by kernel_rfl) (by kernel_rfl) (by kernel_rfl) (fun _ _ _ h => h) (Or.inl ⟨by kernel_rfl, ?_⟩) (by assumption) ?_
  rotate_left
  · (intro w hSw; (try dsimp only at hSw); go_simp; (try with_reducible rfl))
  try simp only [Act.put, List.getElem_toArray, List.getElem_cons_succ, List.getElem_cons_zero, List.setIfInBounds_toArray, List.set_cons_zero, List.set_cons_succ]
  refine wpAnyH_take (i := 21) (v := ?_) rfl (by kernel_rfl) (by kernel_rfl) (by kernel_rfl) (fun _ _ _ h => h) (Or.inl ⟨by kernel_rfl, ?_⟩) (by assumption) ?_
  rotate_left
  · (intro w hSw; (try dsimp only at hSw); go_simp; (try with_reducible rfl))
  try simp only [Act.put, List.getElem_toArray, List.getElem_cons_succ, List.getElem_cons_zero, List.setIfInBounds_toArray, List.set_cons_zero, List.set_cons_succ]
  refine wpAnyH_take (i := 22) (v := ?_) rfl (by kernel_rfl) (by kernel_rfl) (by kernel_rfl) (fun _ _ _ h => h) (Or.inl ⟨by kernel_rfl, ?_⟩) (by assumption) ?_
  rotate_left
  · (intro w hSw; (try dsimp only at hSw); go_simp; (try with_reducible rfl))
  try simp only [Act.put, List.getElem_toArray, List.getElem_cons_succ, List.getElem_cons_zero, List.setIfInBounds_toArray, List.set_cons_zero, List.set_cons_succ]
  refine wpAnyH_take (i := 23) (v := ?_) rfl (by kernel_rfl) (by kernel_rfl) (by kernel_rfl) (fun _ _ _ h => h) (Or.inl ⟨by kernel_rfl, ?_⟩) (by assumption) ?_
  rotate_left
  · (intro w hSw; (try dsimp only at hSw); go_simp; (try with_reducible rfl))
  try simp only [Act.put, List.getElem_toArray, List.getElem_cons_succ, List.getElem_cons_zero, List.setIfInBounds_toArray, List.set_cons_zero, List.set_cons_succ]
  refine wpAnyH_take (i := 24) (v := ?_) rfl (by kernel_rfl) (by kernel_rfl) (by kernel_rfl) (fun _ _ _ h => h) (Or.inl ⟨by kernel_rfl, ?_⟩) (by assumption) ?_
  rotate_left
  · (intro w hSw; (try dsimp only at hSw); go_simp; (try with_reducible rfl))
  try simp only [Act.put, List.getElem_toArray, List.getElem_cons_succ, List.getElem_cons_zero, List.setIfInBounds_toArray, List.set_cons_zero, List.set_cons_succ]
  refine wpAnyH_take (i := 25) (v := ?_) rfl (by kernel_rfl) (by kernel_rfl) (by kernel_rfl) (fun _ _ _ h => h) (Or.inl ⟨by kernel_rfl, ?_⟩) (by assumption) ?_
  rotate_left
  · (intro w hSw; (try dsimp only at hSw); go_simp; (try with_reducible rfl))
  try simp only [Act.put, List.getElem_toArray, List.getElem_cons_succ, List.getElem_cons_zero, List.setIfInBounds_toArray, List.set_cons_zero, List.set_cons_succ]
  refine wpAnyH_ready (rs := [26]) (by kernel_rfl) (by simp) ?_
  refine AllReadyH.cons rfl (fun K hK => ?_) AllReadyH.nil
  go_simp
  refine (bytes_same r Ak Am ck cm _ (HKk10.out.below (HM4.out)).1 (HKm10.out.below (HM4.out)).1 HRM.out).mono ?_
  rintro z v5 ⟨rfl, m5, rfl⟩
  have HM5 := Lib.hid (below_drewN (HM4.out) m5)
  go_wp2_with fail
  refine hK.out _ _ (HRNG.out _ (HM5.out)) (fun hHeld => ?_)
  clear hK K
  try simp only [Act.put, List.getElem_toArray, List.getElem_cons_succ, List.getElem_cons_zero, List.setIfInBounds_toArray, List.set_cons_zero, List.set_cons_succ]
  refine wpAnyH_take (i := 27) (v := ?_) rfl (by kernel_rfl) (by kernel_rfl) (by kernel_rfl) (fun _ _ _ h => h) (Or.inl ⟨by kernel_rfl, ?_⟩) (by assumption) ?_
  rotate_left
  · (intro w hSw; (try dsimp only at hSw); go_simp; (try with_reducible rfl))
  try simp only [Act.put, List.getElem_toArray, List.getElem_cons_succ, List.getElem_cons_zero, List.setIfInBounds_toArray, List.set_cons_zero, List.set_cons_succ]
  refine wpAnyH_take (i := 28) (v := ?_) rfl (by kernel_rfl) (by kernel_rfl) (by kernel_rfl) (fun _ _ _ h => h) (Or.inl ⟨by kernel_rfl, ?_⟩) (by assumption) ?_
  rotate_left
  · (intro w hSw; (try dsimp only at hSw); go_simp; (try with_reducible rfl))
  try simp only [Act.put, List.getElem_toArray, List.getElem_cons_succ, List.getElem_cons_zero, List.setIfInBounds_toArray, List.set_cons_zero, List.set_cons_succ]
  refine wpAnyH_take (i := 29) (v := ?_) rfl (by kernel_rfl) (by kernel_rfl) (by kernel_rfl) (fun _ _ _ h => h) (Or.inl ⟨by kernel_rfl, ?_⟩) (by assumption) ?_
  rotate_left
  · (intro w hSw; (try dsimp only at hSw); go_simp; (try with_reducible rfl))
  try simp only [Act.put, List.getElem_toArray, List.getElem_cons_succ, List.getElem_cons_zero, List.setIfInBounds_toArray, List.set_cons_zero, List.set_cons_succ]
  refine wpAnyH_take (i := 30) (v := ?_) rfl (by kernel_rfl) (by kernel_rfl) (by kernel_rfl) (fun _ _ _ h => h) (Or.inl ⟨by kernel_rfl, ?_⟩) (by assumption) ?_
  rotate_left
  · (intro w hSw; (try dsimp only at hSw); go_simp; (try with_reducible rfl))
  try simp only [Act.put, List.getElem_toArray, List.getElem_cons_succ, List.getElem_cons_zero, List.setIfInBounds_toArray, List.set_cons_zero, List.set_cons_succ]
  refine wpAnyH_ready (rs := [31]) (by kernel_rfl) (by simp) ?_
  refine AllReadyH.cons rfl (fun K hK => ?_) AllReadyH.nil
  go_simp
  refine (lists_same rs Al Ao cl co _ (HSl10.out.below (HM5.out)) (HSo10.out.below (HM5.out)) HRL2.out).mono ?_
  rintro z v6 ⟨rfl, m6, rfl⟩
  have HM6 := Lib.hid (below_drewN HM4.out (m5 + m6))
  go_wp2_with fail
  refine hK.out _ _ (HRNG.out _ (HM6.out)) (fun hHeld => ?_)
  clear hK K
  try simp only [Act.put, List.getElem_toArray, List.getElem_cons_succ, List.getElem_cons_zero, List.setIfInBounds_toArray, List.set_cons_zero, List.set_cons_succ]
  refine wpAnyH_take (i := 32) (v := ?_) rfl (by kernel_rfl) (by kernel_rfl) (by kernel_rfl) (fun _ _ _ h => h) (Or.inl ⟨by kernel_rfl, ?_⟩) (by assumption) ?_
  rotate_left
  · (intro w hSw; (try dsimp only at hSw); go_simp; (try with_reducible rfl))
  try simp only [Act.put, List.getElem_toArray, List.getElem_cons_succ, List.getElem_cons_zero, List.setIfInBounds_toArray, List.set_cons_zero, List.set_cons_succ]
  refine wpAnyH_take (i := 33) (v := ?_) rfl (by kernel_rfl) (by kernel_rfl) (by kernel_rfl) (fun _ _ _ h => h) (Or.inl ⟨by kernel_rfl, ?_⟩) (by assumption) ?_
  rotate_left
  · (intro w hSw; (try dsimp only at hSw); go_simp; (try with_reducible rfl))
  try simp only [Act.put, List.getElem_toArray, List.getElem_cons_succ, List.getElem_cons_zero, List.setIfInBounds_toArray, List.set_cons_zero, List.set_cons_succ]
  refine wpAnyH_take (i := 34) (v := ?_) rfl (by kernel_rfl) (by kernel_rfl) (by kernel_rfl) (fun _ _ _ h => h) (Or.inl ⟨by kernel_rfl, ?_⟩) (by assumption) ?_
  rotate_left
  · (intro w hSw; (try dsimp only at hSw); go_simp; (try with_reducible rfl))
  try simp only [Act.put, List.getElem_toArray, List.getElem_cons_succ, List.getElem_cons_zero, List.setIfInBounds_toArray, List.set_cons_zero, List.set_cons_succ]
  refine wpAnyH_take (i := 35) (v := ?_) rfl (by kernel_rfl) (by kernel_rfl) (by kernel_rfl) (fun _ _ _ h => h) (Or.inl ⟨by kernel_rfl, ?_⟩) (by assumption) ?_
  rotate_left
  · (intro w hSw; (try dsimp only at hSw); go_simp; (try with_reducible rfl))
  try simp only [Act.put, List.getElem_toArray, List.getElem_cons_succ, List.getElem_cons_zero, List.setIfInBounds_toArray, List.set_cons_zero, List.set_cons_succ]
  refine wpAnyH_take (i := 36) (v := ?_) rfl (by kernel_rfl) (by kernel_rfl) (by kernel_rfl) (fun _ _ _ h => h) (Or.inl ⟨by kernel_rfl, ?_⟩) (by assumption) ?_
  rotate_left
  · (intro w hSw; (try dsimp only at hSw); go_simp; (try with_reducible rfl))
  try simp only [Act.put, List.getElem_toArray, List.getElem_cons_succ, List.getElem_cons_zero, List.setIfInBounds_toArray, List.set_cons_zero, List.set_cons_succ]
  refine wpAnyH_take (i := 37) (v := ?_) rfl (by kernel_rfl) (by kernel_rfl) (by kernel_rfl) (fun _ _ _ h => h) (Or.inl ⟨by kernel_rfl, ?_⟩) (by assumption) ?_
  rotate_left
  · (intro w hSw; (try dsimp only at hSw); go_simp; (try with_reducible rfl))
  try simp only [Act.put, List.getElem_toArray, List.getElem_cons_succ, List.getElem_cons_zero, List.setIfInBounds_toArray, List.set_cons_zero, List.set_cons_succ]
  refine wpAnyH_take (i := 38) (v := ?_) rfl (by kernel_rfl) (by kernel_rfl) (by kernel_rfl) (fun _ _ _ h => h) (Or.inl ⟨by kernel_rfl, ?_⟩) (by assumption) ?_
  rotate_left
  · (intro w hSw; (try dsimp only at hSw); go_simp; (try with_reducible rfl))
  try simp only [Act.put, List.getElem_toArray, List.getElem_cons_succ, List.getElem_cons_zero, List.setIfInBounds_toArray, List.set_cons_zero, List.set_cons_succ]
  refine wpAnyH_done (by kernel_rfl) ?_ _
  refine NoPanic.normal ?_
  go_wp2_with fail
  exact bodyPost_ret (v := .bool true) (by simp [results, Try.results3, go_sem]) rfl ⟨rfl, HN10.out.trans ((HM6.out).mono HN10.out.size)⟩
end Go.Proofs.Ytoaembpakmpolaa
