/-
  The walk over Decode of the reference. (Written by a program: wip/jou/gen_ref9.py.)
-/
import Derived.Test.YtoaembpakmpolaaJouRef5
import Derived.Test.YtoaembpakmpolaaJouRef8
import Derived.Test.YtoaembpakmpolaaJouDec
import Derived.Deep.MidRow
namespace Go.Proofs.Ytoaembpakmpolaa
open Go.RowKit Jou
attribute [local go_sem] ba_get ba_extract ba_append

theorem all_and : allP = andP oneI fun k => andP numP fun n => andP txtP fun t => andP postP fun p => andP recP fun r => andP paperP fun q => andP postP fun c => andP (numsP 2) fun d => retP (⟨k, n, t, p, r, q, c, d.getD 0 0, d.getD 1 0⟩ : Log) := by
  funext l
  unfold allP andP retP oneI
  cases oneP l with
  | none => rfl
  | some x => rfl
theorem mid_row : ∀ (vs : List Value) (w : World) (X o : Nat) (cs : Array Value) (t : TypeId) (fr : Nat × Nat), w.heap[X]? = some (.cells cs t fr) → o + vs.length ≤ cs.size → (w.setCells X o vs).heap[X]? = some (.cells (cs.toList.take o ++ vs ++ cs.toList.drop (o + vs.length)).toArray t fr)
  | [], w, X, o, cs, t, fr, h, _ => by
    show w.heap[X]? = _
    rw [h, List.append_nil, List.length_nil, Nat.add_zero, List.take_append_drop, Array.toArray_toList]
  | v :: vs, w, X, o, cs, t, fr, h, hl => by
    rw [List.length_cons] at hl
    have h1 := row_set h o v
    have ih := mid_row vs (w.setCell ⟨X, o, none⟩ v) X (o + 1) _ t fr h1 (by rw [Array.size_setIfInBounds]; omega)
    show ((w.setCell ⟨X, o, none⟩ v).setCells X (o + 1) vs).heap[X]? = _
    rw [ih]
    congr 2
    apply Array.ext'
    rw [List.toList_toArray, List.toList_toArray, Array.toList_setIfInBounds, List.length_cons]
    have ho : o < cs.toList.length := by simpa using (by omega : o < cs.size)
    have e1 : (cs.toList.set o v).take (o + 1) = cs.toList.take o ++ [v] := by
      rw [List.take_set, List.take_succ_eq_append_getElem ho, List.set_append_right _ _ (by rw [List.length_take]; omega)]
      have hm : min o cs.size = o := Nat.min_eq_left (by omega)
      simp [List.length_take, hm]
    have e2 : (cs.toList.set o v).drop (o + 1 + vs.length) = cs.toList.drop (o + (vs.length + 1)) := by
      rw [List.drop_set_of_lt (by omega)]
      congr 1
      omega
    rw [e1, e2]
    simp [List.append_assoc]
theorem mid_size : ∀ (vs : List Value) (w : World) (X o : Nat), (w.setCells X o vs).heap.size = w.heap.size
  | [], _, _, _ => rfl
  | v :: vs, w, X, o => by
    show ((w.setCell ⟨X, o, none⟩ v).setCells X (o + 1) vs).heap.size = _
    rw [mid_size vs]
    simp [World.setCell]
theorem mid_other : ∀ (vs : List Value) (w : World) (X o k : Nat), k ≠ X → (w.setCells X o vs).heap[k]? = w.heap[k]?
  | [], _, _, _, _, _ => rfl
  | v :: vs, w, X, o, k, h => by
    show ((w.setCell ⟨X, o, none⟩ v).setCells X (o + 1) vs).heap[k]? = _
    rw [mid_other vs _ X (o + 1) k h]
    exact Below.heap_setCell _ _ _ _ h
theorem g_mid : ∀ (vs : List Value) {a b : World} {r : Option Nat} (_ : a.grownBy b r) {X : Nat} (_ : a.heap.size ≤ X) (o : Nat), a.grownBy (b.setCells X o vs) r
  | [], _, _, _, h, _, _, _ => h
  | v :: vs, _, _, _, h, _, hX, o => g_mid vs (g_new h hX o v) hX (o + 1)
theorem Rst.mid {w : World} {p : Nat} {b : List UInt8} {st : Option (List UInt8)} (h : Rst w p b st) {X : Nat} (hX : p < X) (o : Nat) (vs : List Value) : Rst (w.setCells X o vs) p b st := h.grown (r := X) (by
  have := g_mid vs (World.grownBy.refl w (some X)) (X := X)
  refine ⟨?_, ?_, ?_, by rw [mid_size]; exact Nat.le_refl _, fun i _ hi => mid_other _ _ _ _ _ (by simpa using hi)⟩
  all_goals
    clear this h hX
    induction vs generalizing w o with
    | nil => rfl
    | cons v vs ih => exact ih _) hX
theorem there_row {w : World} {X o n : Nat} {cs : Array Value} {t : TypeId} (h : w.heap[X]? = some (.cells cs t (0, 0))) (hl : o + n ≤ cs.size) : w.there X o n := fun j hj =>
  ⟨by rw [cell_of_row w X (o + j) cs t (0, 0) h]; simp; omega, frozen_row h _⟩
theorem rd_mid {w : World} {A : Option Addr} {xs : List Value} (h : Rd w A xs) {X : Nat} (hA : ∀ a, A = some a → a.block ≠ X) (o : Nat) (vs : List Value) : Rd (w.setCells X o vs) A xs :=
  h.same (Nat.le_of_eq (mid_size _ _ _ _).symm) (fun a ha _ => mid_other _ _ _ _ _ (hA a ha))
theorem below_mid : ∀ {w W : World} (_ : Below w.heap.size w W) {X : Nat} (o : Nat) (vs : List Value) (_ : w.heap.size < X), Below w.heap.size w (W.setCells X o vs)
  | _, _, h, _, _, [], _ => h
  | _, _, h, X, o, v :: vs, hX => below_mid (h.setCell (p := ⟨X, o, none⟩) (Nat.le_of_lt hX) v) (o + 1) vs hX
/-- What stands between two steps: the reader, the entry's box, the result's box. -/
def Db (w : World) (p X : Nat) (b : List UInt8) (row : Array Value) (st : Option (List UInt8)) (W : World) : Prop :=
  W.heap[X]? = some (.cells row 37 (0, 0)) ∧ W.heap[w.heap.size]? = some (.cells #[iV 0, iV 0, .string ⟨#[]⟩, .string ⟨#[]⟩, iV 0, iV 0, iV 0, iV 0, iV 0, iV 0, iV 0, iV 0, .string ⟨#[]⟩, .slice none 0 0, .string ⟨#[]⟩, iV 0, iV 0, iV 0, iV 0, iV 0, iV 0, iV 0, .string ⟨#[]⟩, iV 0, .slice none 0 0, .string ⟨#[]⟩, iV 0, iV 0, iV 0, iV 0, iV 0, iV 0] 37 (0, 0)) ∧ Below w.heap.size w W ∧ Rst W p b st
theorem Db.step {w : World} {p X : Nat} {b : List UInt8} {row : Array Value} {s1 st : Option (List UInt8)} {W W' : World} (h : Db w p X b row s1 W) (hp : w.heap.size < p) (hpX : p < X) (hg : W.grownBy W' (some p)) (hs : Rst W' p b st) : Db w p X b row st W' :=
  ⟨(hg.block _ (block_lt h.1) (by simp; omega)).trans h.1, (hg.block _ (block_lt h.2.1) (by simp; omega)).trans h.2.1, h.2.2.1.trans (below_of_g hg h.2.2.1.size (by omega)), hs⟩
theorem Db.mid {w : World} {p X : Nat} {b : List UInt8} {row row' : Array Value} {st : Option (List UInt8)} {W : World} (h : Db w p X b row st W) (hp : w.heap.size < p) (hpX : p < X) (o : Nat) (vs : List Value) (hl : o + vs.length ≤ row.size) (hr : (row.toList.take o ++ vs ++ row.toList.drop (o + vs.length)).toArray = row') : Db w p X b row' st (W.setCells X o vs) :=
  ⟨hr ▸ mid_row vs W X o row _ _ h.1 hl, (mid_other _ _ _ _ _ (by omega)).trans h.2.1, (below_mid h.2.2.1 o vs (Nat.lt_trans hp hpX)), h.2.2.2.mid hpX o vs⟩
/-- A row that a step gave, beyond X. -/
def Rf (X : Nat) (W : World) (A : Option Addr) (xs : List Value) : Prop := Rd W A xs ∧ ∀ a, A = some a → X < a.block ∧ a.block < W.heap.size
theorem Rf.step {X p : Nat} {W W' : World} {A : Option Addr} {xs : List Value} (h : Rf X W A xs) (hpX : p < X) (hg : W.grownBy W' (some p)) : Rf X W' A xs :=
  ⟨h.1.same hg.size (fun a ha hl => hg.block _ hl (by have := h.2 a ha; simp; omega)), fun a ha => ⟨(h.2 a ha).1, Nat.lt_of_lt_of_le (h.2 a ha).2 hg.size⟩⟩
theorem Rf.mid {X : Nat} {W : World} {A : Option Addr} {xs : List Value} (h : Rf X W A xs) (o : Nat) (vs : List Value) : Rf X (W.setCells X o vs) A xs :=
  ⟨rd_mid h.1 (fun a ha => by have := h.2 a ha; omega) o vs, fun a ha => by rw [mid_size]; exact h.2 a ha⟩
theorem Rf.below {X : Nat} {W W' : World} {A : Option Addr} {xs : List Value} (h : Rf X W A xs) (hb : Below W.heap.size W W') : Rf X W' A xs :=
  ⟨h.1.below hb, fun a ha => ⟨(h.2 a ha).1, Nat.lt_of_lt_of_le (h.2 a ha).2 hb.size⟩⟩
theorem below_row {n B : Nat} {w W : World} (h : Below n w W) (hB : n ≤ B) (cs : Array Value) : Below n w (W.setRow B cs) :=
  ⟨h.os, h.tape, h.output, by rw [setRow_size]; exact h.size, fun i hi => (setRow_other _ _ _ _ (by omega)).trans (h.block i hi)⟩
theorem fdec_res {W : World} {B : Nat} {cs : Array Value} {x : Value} (h : W.heap[B]? = some (.cells cs 37 (0, 0))) (hs : cs.size = 32) (tmps : Array Value) (h2 : tmps.getD 2 undef = .pointer (some ⟨B, 0, none⟩)) (h3 : tmps.getD 3 undef = x) :
    (results Try.f13 tmps).run Try.prog W = .ok (.tuple #[.agg cs, x]) W := by
  have e1 := run_loadVar_row (P := Try.prog) W B 37 37 cs (0, 0) _ h Try.underlying37 rfl (by rw [hs]; exact lgInf)
  have h2' : tmps[2]?.getD undef = .pointer (some ⟨B, 0, none⟩) := by simpa using h2
  have h3' : tmps[3]?.getD undef = x := by simpa using h3
  simp [results, Try.results13, asAddr, h2', h3', e1]
theorem DecRes.bad2 {w w' : World} {b : List UInt8} (h1 : decodeR b = (zeroLog, 400)) (hb : Below w.heap.size w w') : DecRes w b (.returned (.tuple #[.agg #[iV 0, iV 0, .string ⟨#[]⟩, .string ⟨#[]⟩, iV 0, iV 0, iV 0, iV 0, iV 0, iV 0, iV 0, iV 0, .string ⟨#[]⟩, .slice none 0 0, .string ⟨#[]⟩, iV 0, iV 0, iV 0, iV 0, iV 0, iV 0, iV 0, .string ⟨#[]⟩, iV 0, .slice none 0 0, .string ⟨#[]⟩, iV 0, iV 0, iV 0, iV 0, iV 0, iV 0], iV 400])) w' := by
  refine ⟨hb, none, 0, none, 0, by rw [h1]; rfl, ?_, ?_, fun a ha => (by cases ha), fun a ha => (by cases ha)⟩
  · rw [h1]; exact Rd.nil _ _
  · rw [h1]; exact Rd.nil _ _
theorem poInf : (Try.prog.info? 23).map (·.size) = some 5 := by kernel_rfl
set_option maxHeartbeats 8000000 in
set_option maxRecDepth 100000 in
theorem fdecode_any (b : List UInt8) (A : Option Addr) (c : Nat) (w : World) (hA : Rd w A (b.map bV)) (hl : Low w.heap.size A) (hb4 : b.length ≤ 4000) :
    Calls Try.prog 13 #[.slice A b.length c] w (DecRes w b) := by
  have HW0 : Hid (((w.alloc (.cells #[iV 0, iV 0, .string ⟨#[]⟩, .string ⟨#[]⟩, iV 0, iV 0, iV 0, iV 0, iV 0, iV 0, iV 0, iV 0, .string ⟨#[]⟩, .slice none 0 0, .string ⟨#[]⟩, iV 0, iV 0, iV 0, iV 0, iV 0, iV 0, iV 0, .string ⟨#[]⟩, iV 0, .slice none 0 0, .string ⟨#[]⟩, iV 0, iV 0, iV 0, iV 0, iV 0, iV 0] 37)).alloc (.cells #[.slice A b.length c, iV 0, .bool false] 70)).heap[w.heap.size]? = some (.cells #[iV 0, iV 0, .string ⟨#[]⟩, .string ⟨#[]⟩, iV 0, iV 0, iV 0, iV 0, iV 0, iV 0, iV 0, iV 0, .string ⟨#[]⟩, .slice none 0 0, .string ⟨#[]⟩, iV 0, iV 0, iV 0, iV 0, iV 0, iV 0, iV 0, .string ⟨#[]⟩, iV 0, .slice none 0 0, .string ⟨#[]⟩, iV 0, iV 0, iV 0, iV 0, iV 0, iV 0] 37 (0, 0))) := (Below.heap_alloc _ _ _ (by simp)).trans (heap_alloc_new _ _)
  have HB0 : Hid (Below w.heap.size w ((w.alloc (.cells #[iV 0, iV 0, .string ⟨#[]⟩, .string ⟨#[]⟩, iV 0, iV 0, iV 0, iV 0, iV 0, iV 0, iV 0, iV 0, .string ⟨#[]⟩, .slice none 0 0, .string ⟨#[]⟩, iV 0, iV 0, iV 0, iV 0, iV 0, iV 0, iV 0, .string ⟨#[]⟩, iV 0, .slice none 0 0, .string ⟨#[]⟩, iV 0, iV 0, iV 0, iV 0, iV 0, iV 0] 37)).alloc (.cells #[.slice A b.length c, iV 0, .bool false] 70))) := ((Below.refl _ w).alloc (Nat.le_refl _) _).alloc (by simp) _
  have HR0 : Hid (Rst ((w.alloc (.cells #[iV 0, iV 0, .string ⟨#[]⟩, .string ⟨#[]⟩, iV 0, iV 0, iV 0, iV 0, iV 0, iV 0, iV 0, iV 0, .string ⟨#[]⟩, .slice none 0 0, .string ⟨#[]⟩, iV 0, iV 0, iV 0, iV 0, iV 0, iV 0, iV 0, .string ⟨#[]⟩, iV 0, .slice none 0 0, .string ⟨#[]⟩, iV 0, iV 0, iV 0, iV 0, iV 0, iV 0] 37)).alloc (.cells #[.slice A b.length c, iV 0, .bool false] 70)) (w.heap.size + 1) b (some b)) := by
    have hh := heap_alloc_new (w.alloc (.cells #[iV 0, iV 0, .string ⟨#[]⟩, .string ⟨#[]⟩, iV 0, iV 0, iV 0, iV 0, iV 0, iV 0, iV 0, iV 0, .string ⟨#[]⟩, .slice none 0 0, .string ⟨#[]⟩, iV 0, iV 0, iV 0, iV 0, iV 0, iV 0, iV 0, .string ⟨#[]⟩, iV 0, .slice none 0 0, .string ⟨#[]⟩, iV 0, iV 0, iV 0, iV 0, iV 0, iV 0] 37)) (.cells #[.slice A b.length c, iV 0, .bool false] 70)
    rw [World.size_alloc] at hh
    exact ⟨A, c, 0, cell_of_row _ _ 0 _ _ _ hh, cell_of_row _ _ 1 _ _ _ hh, cell_of_row _ _ 2 _ _ _ hh, frozen_row hh 1, frozen_row hh 2, Nat.zero_le _, hA.below HB0.out, fun a ha => by have := hl a ha; omega, hb4, fun l hl => by cases hl; rfl⟩
  have hw2 : w.heap.size + 1 < ((w.alloc (.cells #[iV 0, iV 0, .string ⟨#[]⟩, .string ⟨#[]⟩, iV 0, iV 0, iV 0, iV 0, iV 0, iV 0, iV 0, iV 0, .string ⟨#[]⟩, .slice none 0 0, .string ⟨#[]⟩, iV 0, iV 0, iV 0, iV 0, iV 0, iV 0, iV 0, .string ⟨#[]⟩, iV 0, .slice none 0 0, .string ⟨#[]⟩, iV 0, iV 0, iV 0, iV 0, iV 0, iV 0] 37)).alloc (.cells #[.slice A b.length c, iV 0, .bool false] 70)).heap.size := by simp
  clear hA hl
  have hb63 : (b.length : Int) ≤ 4000 := by omega
  go_enter Try.func13, Try.ntmps13
  go_upto_region 2 with fail
  change Code.wp _ _ _ _ ((w.alloc (.cells #[iV 0, iV 0, .string ⟨#[]⟩, .string ⟨#[]⟩, iV 0, iV 0, iV 0, iV 0, iV 0, iV 0, iV 0, iV 0, .string ⟨#[]⟩, .slice none 0 0, .string ⟨#[]⟩, iV 0, iV 0, iV 0, iV 0, iV 0, iV 0, iV 0, .string ⟨#[]⟩, iV 0, .slice none 0 0, .string ⟨#[]⟩, iV 0, iV 0, iV 0, iV 0, iV 0, iV 0] 37)).alloc (.cells #[.slice A b.length c, iV 0, .bool false] 70))
  generalize ((w.alloc (.cells #[iV 0, iV 0, .string ⟨#[]⟩, .string ⟨#[]⟩, iV 0, iV 0, iV 0, iV 0, iV 0, iV 0, iV 0, iV 0, .string ⟨#[]⟩, .slice none 0 0, .string ⟨#[]⟩, iV 0, iV 0, iV 0, iV 0, iV 0, iV 0, iV 0, .string ⟨#[]⟩, iV 0, .slice none 0 0, .string ⟨#[]⟩, iV 0, iV 0, iV 0, iV 0, iV 0, iV 0] 37)).alloc (.cells #[.slice A b.length c, iV 0, .bool false] 70)) = W0 at *
  obtain ⟨P, hP⟩ : ∃ P, P = w.heap.size + 1 := ⟨_, rfl⟩
  rw [← hP] at HR0 hw2 ⊢
  have hp : w.heap.size < P := by omega
  clear hP
  go_wp2_with fail
  refine (one_any P b (some b) _ HR0.out).mono ?_
  rintro x w1 ⟨n0, rfl, hn0, hg, hs, hv⟩
  have HI0 := Lib.hid hn0
  have HP0 := Lib.hid (Step.mk' hv)
  have HZ1 := Lib.hid ((hg.block _ (block_lt HW0.out) (by simp; omega)).trans HW0.out)
  have HB1 := Lib.hid (HB0.out.trans (below_of_g hg HB0.out.size (by omega)))
  have HS1 := Lib.hid hs
  have hX1 : P < w1.heap.size := Nat.lt_of_lt_of_le hw2 hg.size
  clear hg hs hv hn0 HW0 HB0 HR0 hw2
  generalize ((some b).bind oneI).map (·.2) = s0 at *
  go_upto_region 3 with (first
    | (refine wpList_build (by rfl) 37 #[(0, .tmp 11)] (by rfl) (by kernel_rfl) ?_)
    | (refine wpList_store_row (by rfl) 37 (.tmp 5) (.tmp 12) (by rfl) w1.heap.size #[iV n0, iV 0, .string ⟨#[]⟩, .string ⟨#[]⟩, iV 0, iV 0, iV 0, iV 0, iV 0, iV 0, iV 0, iV 0, .string ⟨#[]⟩, .slice none 0 0, .string ⟨#[]⟩, iV 0, iV 0, iV 0, iV 0, iV 0, iV 0, iV 0, .string ⟨#[]⟩, iV 0, .slice none 0 0, .string ⟨#[]⟩, iV 0, iV 0, iV 0, iV 0, iV 0, iV 0] (by rfl) (by kernel_rfl) 37 #[iV 0, iV 0, .string ⟨#[]⟩, .string ⟨#[]⟩, iV 0, iV 0, iV 0, iV 0, iV 0, iV 0, iV 0, iV 0, .string ⟨#[]⟩, .slice none 0 0, .string ⟨#[]⟩, iV 0, iV 0, iV 0, iV 0, iV 0, iV 0, iV 0, .string ⟨#[]⟩, iV 0, .slice none 0 0, .string ⟨#[]⟩, iV 0, iV 0, iV 0, iV 0, iV 0, iV 0] (heap_alloc_new _ _) lgInf (by rfl) (by simp [Value.oneCell']) ?_)
    | fail)
  have HD0 : Hid (Db w P w1.heap.size b #[iV n0, iV 0, .string ⟨#[]⟩, .string ⟨#[]⟩, iV 0, iV 0, iV 0, iV 0, iV 0, iV 0, iV 0, iV 0, .string ⟨#[]⟩, .slice none 0 0, .string ⟨#[]⟩, iV 0, iV 0, iV 0, iV 0, iV 0, iV 0, iV 0, .string ⟨#[]⟩, iV 0, .slice none 0 0, .string ⟨#[]⟩, iV 0, iV 0, iV 0, iV 0, iV 0, iV 0] s0 ((w1.alloc (.cells #[iV 0, iV 0, .string ⟨#[]⟩, .string ⟨#[]⟩, iV 0, iV 0, iV 0, iV 0, iV 0, iV 0, iV 0, iV 0, .string ⟨#[]⟩, .slice none 0 0, .string ⟨#[]⟩, iV 0, iV 0, iV 0, iV 0, iV 0, iV 0, iV 0, .string ⟨#[]⟩, iV 0, .slice none 0 0, .string ⟨#[]⟩, iV 0, iV 0, iV 0, iV 0, iV 0, iV 0] 37)).setRow w1.heap.size #[iV n0, iV 0, .string ⟨#[]⟩, .string ⟨#[]⟩, iV 0, iV 0, iV 0, iV 0, iV 0, iV 0, iV 0, iV 0, .string ⟨#[]⟩, .slice none 0 0, .string ⟨#[]⟩, iV 0, iV 0, iV 0, iV 0, iV 0, iV 0, iV 0, .string ⟨#[]⟩, iV 0, .slice none 0 0, .string ⟨#[]⟩, iV 0, iV 0, iV 0, iV 0, iV 0, iV 0])) :=
    ⟨setRow_heap _ _ _ _ _ _ (heap_alloc_new _ _), (setRow_other _ _ _ _ (by omega)).trans ((Below.heap_alloc _ _ _ (block_lt HZ1.out)).trans HZ1.out), below_row (HB1.out.alloc HB1.out.size _) HB1.out.size _, (HS1.out.alloc _).row hX1 _⟩
  generalize w1.heap.size = X at *
  clear HZ1 HB1 HS1
  have hpX : P < X := hX1
  clear hX1
  go_wp2_with fail
  refine (fnum_any P b s0 _ HD0.out.2.2.2).mono ?_
  rintro x w2 ⟨n1, rfl, _, hg, hs, hv⟩
  have HP1 := Lib.hid (Step.mk' hv)
  have HE1 := Lib.hid (HD0.out.step hp hpX hg hs)
  clear hv
  clear hg hs HD0
  generalize (s0.bind numP).map (·.2) = s1 at *
  have xc : w2.cell? ⟨X, 1, none⟩ = some (iV 0) := cell_of_row w2 _ 1 _ _ _ HE1.out.1
  have xf : w2.frozen? ⟨X, 1, none⟩ = false := frozen_row HE1.out.1 1
  go_upto_region 4 with fail
  clear xc xf
  have HD1 : Hid (Db w P X b #[iV n0, iV n1, .string ⟨#[]⟩, .string ⟨#[]⟩, iV 0, iV 0, iV 0, iV 0, iV 0, iV 0, iV 0, iV 0, .string ⟨#[]⟩, .slice none 0 0, .string ⟨#[]⟩, iV 0, iV 0, iV 0, iV 0, iV 0, iV 0, iV 0, .string ⟨#[]⟩, iV 0, .slice none 0 0, .string ⟨#[]⟩, iV 0, iV 0, iV 0, iV 0, iV 0, iV 0] s1 (w2.setCells X 1 [iV n1])) := HE1.out.mid hp hpX 1 _ (by simp) (by kernel_rfl)
  clear HE1
  go_wp2_with fail
  refine (ftxt_any P b s1 _ HD1.out.2.2.2).mono ?_
  rintro x w3 ⟨t1, rfl, _, hg, hs, hv⟩
  have HP2 := Lib.hid (Step.mk' hv)
  have HE2 := Lib.hid (HD1.out.step hp hpX hg hs)
  clear hv
  clear hg hs HD1
  generalize (s1.bind txtP).map (·.2) = s2 at *
  have xc : w3.cell? ⟨X, 2, none⟩ = some (.string ⟨#[]⟩) := cell_of_row w3 _ 2 _ _ _ HE2.out.1
  have xf : w3.frozen? ⟨X, 2, none⟩ = false := frozen_row HE2.out.1 2
  go_upto_region 5 with fail
  clear xc xf
  have HD2 : Hid (Db w P X b #[iV n0, iV n1, sV t1, .string ⟨#[]⟩, iV 0, iV 0, iV 0, iV 0, iV 0, iV 0, iV 0, iV 0, .string ⟨#[]⟩, .slice none 0 0, .string ⟨#[]⟩, iV 0, iV 0, iV 0, iV 0, iV 0, iV 0, iV 0, .string ⟨#[]⟩, iV 0, .slice none 0 0, .string ⟨#[]⟩, iV 0, iV 0, iV 0, iV 0, iV 0, iV 0] s2 (w3.setCells X 2 [sV t1])) := HE2.out.mid hp hpX 2 _ (by simp) (by kernel_rfl)
  clear HE2
  go_wp2_with fail
  refine (fpost_any P b s2 _ HD2.out.2.2.2).mono ?_
  rintro x w4 ⟨po, rfl, _, hg, hs, hv⟩
  have HP3 := Lib.hid (Step.mk' hv)
  have HE3 := Lib.hid (HD2.out.step hp hpX hg hs)
  clear hv
  clear hg hs HD2
  generalize (s2.bind postP).map (·.2) = s3 at *
  go_upto_region 6 with (first
    | (refine wpList_store_mid (by rfl) 23 (.tmp 21) (.tmp 20) (by rfl) X 3 #[sV po.label, iV po.frm, iV po.to, iV po.cls, iV po.acc] (by rfl) (by rfl) (there_row HE3.out.1 (by simp)) poInf (by simp [Value.oneCell']) ?_)
    | fail)
  have HD3 : Hid (Db w P X b #[iV n0, iV n1, sV t1, sV po.label, iV po.frm, iV po.to, iV po.cls, iV po.acc, iV 0, iV 0, iV 0, iV 0, .string ⟨#[]⟩, .slice none 0 0, .string ⟨#[]⟩, iV 0, iV 0, iV 0, iV 0, iV 0, iV 0, iV 0, .string ⟨#[]⟩, iV 0, .slice none 0 0, .string ⟨#[]⟩, iV 0, iV 0, iV 0, iV 0, iV 0, iV 0] s3 (w4.setCells X 3 (#[sV po.label, iV po.frm, iV po.to, iV po.cls, iV po.acc] : Array Value).toList)) := HE3.out.mid hp hpX 3 _ (by simp) (by kernel_rfl)
  clear HE3
  go_wp2_with fail
  refine (frec_any P b s3 _ HD3.out.2.2.2).mono ?_
  rintro x w5 ⟨re, AC, cc, s4, rfl, hrd, hrl, hg, hs, hp4⟩
  have HP4 := Lib.hid hp4
  have HE4 := Lib.hid (HD3.out.step hp hpX hg hs)
  have HAC : Hid (Rf X w5 AC (re.contents.map sV)) := ⟨hrd, fun a ha => by have h1 := hrl a ha; have h2 := block_lt HD3.out.1; omega⟩
  clear hrd hrl hp4
  clear hg hs HD3
  go_upto_region 7 with (first
    | (refine wpList_store_mid (by rfl) 26 (.tmp 24) (.tmp 23) (by rfl) X 8 #[iV re.scanner, iV re.number, iV re.kind, iV re.time, sV re.label, .slice AC re.contents.length cc] (by rfl) (by rfl) (there_row HE4.out.1 (by simp)) rcInf (by simp [Value.oneCell']) ?_)
    | fail)
  have HD4 : Hid (Db w P X b #[iV n0, iV n1, sV t1, sV po.label, iV po.frm, iV po.to, iV po.cls, iV po.acc, iV re.scanner, iV re.number, iV re.kind, iV re.time, sV re.label, .slice AC re.contents.length cc, .string ⟨#[]⟩, iV 0, iV 0, iV 0, iV 0, iV 0, iV 0, iV 0, .string ⟨#[]⟩, iV 0, .slice none 0 0, .string ⟨#[]⟩, iV 0, iV 0, iV 0, iV 0, iV 0, iV 0] s4 (w5.setCells X 8 (#[iV re.scanner, iV re.number, iV re.kind, iV re.time, sV re.label, .slice AC re.contents.length cc] : Array Value).toList)) := HE4.out.mid hp hpX 8 _ (by simp) (by kernel_rfl)
  clear HE4
  have HAC : Hid (Rf X (w5.setCells X 8 (#[iV re.scanner, iV re.number, iV re.kind, iV re.time, sV re.label, .slice AC re.contents.length cc] : Array Value).toList) _ _) := HAC.out.mid 8 _
  go_wp2_with fail
  refine (fpaper_any P b s4 _ HD4.out.2.2.2).mono ?_
  rintro x w6 ⟨pa, AP, cp, s5, rfl, hrd, hrl, hg, hs, hp5⟩
  have HP5 := Lib.hid hp5
  have HE5 := Lib.hid (HD4.out.step hp hpX hg hs)
  have HAC := Lib.hid (HAC.out.step hpX hg)
  have HAP : Hid (Rf X w6 AP (pa.path.map iV)) := ⟨hrd, fun a ha => by have h1 := hrl a ha; have h2 := block_lt HD4.out.1; omega⟩
  clear hrd hrl hp5
  clear hg hs HD4
  go_upto_region 8 with (first
    | (refine wpList_store_mid (by rfl) 33 (.tmp 27) (.tmp 26) (by rfl) X 14 #[sV pa.sl, iV pa.frm, iV pa.to, iV pa.time, iV pa.count, iV pa.root, iV pa.give, iV pa.take, sV pa.label, iV pa.index, .slice AP pa.path.length cp] (by rfl) (by rfl) (there_row HE5.out.1 (by simp)) ppInf (by simp [Value.oneCell']) ?_)
    | fail)
  have HD5 : Hid (Db w P X b #[iV n0, iV n1, sV t1, sV po.label, iV po.frm, iV po.to, iV po.cls, iV po.acc, iV re.scanner, iV re.number, iV re.kind, iV re.time, sV re.label, .slice AC re.contents.length cc, sV pa.sl, iV pa.frm, iV pa.to, iV pa.time, iV pa.count, iV pa.root, iV pa.give, iV pa.take, sV pa.label, iV pa.index, .slice AP pa.path.length cp, .string ⟨#[]⟩, iV 0, iV 0, iV 0, iV 0, iV 0, iV 0] s5 (w6.setCells X 14 (#[sV pa.sl, iV pa.frm, iV pa.to, iV pa.time, iV pa.count, iV pa.root, iV pa.give, iV pa.take, sV pa.label, iV pa.index, .slice AP pa.path.length cp] : Array Value).toList)) := HE5.out.mid hp hpX 14 _ (by simp) (by kernel_rfl)
  have HAC : Hid (Rf X (w6.setCells X 14 (#[sV pa.sl, iV pa.frm, iV pa.to, iV pa.time, iV pa.count, iV pa.root, iV pa.give, iV pa.take, sV pa.label, iV pa.index, .slice AP pa.path.length cp] : Array Value).toList) _ _) := HAC.out.mid 14 _
  have HAP : Hid (Rf X (w6.setCells X 14 (#[sV pa.sl, iV pa.frm, iV pa.to, iV pa.time, iV pa.count, iV pa.root, iV pa.give, iV pa.take, sV pa.label, iV pa.index, .slice AP pa.path.length cp] : Array Value).toList) _ _) := HAP.out.mid 14 _
  clear HE5
  go_wp2_with fail
  refine (fpost_any P b s5 _ HD5.out.2.2.2).mono ?_
  rintro x w7 ⟨po2, rfl, _, hg, hs, hv⟩
  have HP6 := Lib.hid (Step.mk' hv)
  have HE6 := Lib.hid (HD5.out.step hp hpX hg hs)
  have HAC := Lib.hid (HAC.out.step hpX hg)
  have HAP := Lib.hid (HAP.out.step hpX hg)
  clear hv
  clear hg hs HD5
  generalize (s5.bind postP).map (·.2) = s6 at *
  go_upto_region 9 with (first
    | (refine wpList_store_mid (by rfl) 23 (.tmp 31) (.tmp 29) (by rfl) X 25 #[sV po2.label, iV po2.frm, iV po2.to, iV po2.cls, iV po2.acc] (by rfl) (by rfl) (there_row HE6.out.1 (by simp)) poInf (by simp [Value.oneCell']) ?_)
    | fail)
  have HD6 : Hid (Db w P X b #[iV n0, iV n1, sV t1, sV po.label, iV po.frm, iV po.to, iV po.cls, iV po.acc, iV re.scanner, iV re.number, iV re.kind, iV re.time, sV re.label, .slice AC re.contents.length cc, sV pa.sl, iV pa.frm, iV pa.to, iV pa.time, iV pa.count, iV pa.root, iV pa.give, iV pa.take, sV pa.label, iV pa.index, .slice AP pa.path.length cp, sV po2.label, iV po2.frm, iV po2.to, iV po2.cls, iV po2.acc, iV 0, iV 0] s6 (w7.setCells X 25 (#[sV po2.label, iV po2.frm, iV po2.to, iV po2.cls, iV po2.acc] : Array Value).toList)) := HE6.out.mid hp hpX 25 _ (by simp) (by kernel_rfl)
  have HAC : Hid (Rf X (w7.setCells X 25 (#[sV po2.label, iV po2.frm, iV po2.to, iV po2.cls, iV po2.acc] : Array Value).toList) _ _) := HAC.out.mid 25 _
  have HAP : Hid (Rf X (w7.setCells X 25 (#[sV po2.label, iV po2.frm, iV po2.to, iV po2.cls, iV po2.acc] : Array Value).toList) _ _) := HAP.out.mid 25 _
  clear HE6
  go_wp2_with fail
  refine (fnums_any P b s6 2 _ HD6.out.2.2.2 (by omega)).mono ?_
  rintro x w8 ⟨ns, Ad, cd, rfl, hnl, hni, ho, hg, hs, hv⟩
  have HP7 := Lib.hid (Step.mk' hv)
  have HE7 := Lib.hid (HD6.out.step hp hpX hg hs)
  have HAC := Lib.hid (HAC.out.step hpX hg)
  have HAP := Lib.hid (HAP.out.step hpX hg)
  obtain ⟨d1, d2, rfl⟩ := two hnl
  obtain ⟨bn, on, hA, hbn, hcn⟩ := (own_rd ho).get (i := 0) (by simp)
  have hfar := own_at ho _ hA
  have hX6 := block_lt HD6.out.1
  simp only at hfar
  subst hA
  have k0 : w8.cell? ⟨bn, on, none⟩ = some (iV d1) := by simpa using hcn 0 _ rfl
  have k1 : w8.cell? ⟨bn, on + 1, none⟩ = some (iV d2) := hcn 1 _ rfl
  have HNE : Hid (bn ≠ X) := by show _ ≠ _; omega
  have k1' : (w8.setCell ⟨X, 30, none⟩ (iV d1)).cell? ⟨bn, on + 1, none⟩ = some (iV d2) := (World.cell?_of_block (a := ⟨bn, on + 1, none⟩) (Below.heap_setCell _ _ _ _ HNE.out)).trans k1
  clear hg hs hv hnl hni ho hcn HD6 hfar hX6 hbn k1
  generalize (s6.bind (numsP 2)).map (·.2) = s7 at *
  have xc : w8.cell? ⟨X, 30, none⟩ = some (iV 0) := cell_of_row w8 _ 30 _ _ _ HE7.out.1
  have xf : w8.frozen? ⟨X, 30, none⟩ = false := frozen_row HE7.out.1 30
  go_upto_region 11 with fail
  have HF7 : Hid (Db w P X b #[iV n0, iV n1, sV t1, sV po.label, iV po.frm, iV po.to, iV po.cls, iV po.acc, iV re.scanner, iV re.number, iV re.kind, iV re.time, sV re.label, .slice AC re.contents.length cc, sV pa.sl, iV pa.frm, iV pa.to, iV pa.time, iV pa.count, iV pa.root, iV pa.give, iV pa.take, sV pa.label, iV pa.index, .slice AP pa.path.length cp, sV po2.label, iV po2.frm, iV po2.to, iV po2.cls, iV po2.acc, iV d1, iV 0] s7 (w8.setCell ⟨X, 30, none⟩ (iV d1))) := HE7.out.mid hp hpX 30 [iV d1] (by simp) (by kernel_rfl)
  have HAC : Hid (Rf X (w8.setCell ⟨X, 30, none⟩ (iV d1)) _ _) := HAC.out.mid 30 [iV d1]
  have HAP : Hid (Rf X (w8.setCell ⟨X, 30, none⟩ (iV d1)) _ _) := HAP.out.mid 30 [iV d1]
  clear xc xf HE7 k0 HNE
  generalize (w8.setCell ⟨X, 30, none⟩ (iV d1)) = w9 at *
  have xc : w9.cell? ⟨X, 31, none⟩ = some (iV 0) := cell_of_row w9 _ 31 _ _ _ HF7.out.1
  have xf : w9.frozen? ⟨X, 31, none⟩ = false := frozen_row HF7.out.1 31
  go_upto_region 12 with fail
  have HD : Hid (Db w P X b #[iV n0, iV n1, sV t1, sV po.label, iV po.frm, iV po.to, iV po.cls, iV po.acc, iV re.scanner, iV re.number, iV re.kind, iV re.time, sV re.label, .slice AC re.contents.length cc, sV pa.sl, iV pa.frm, iV pa.to, iV pa.time, iV pa.count, iV pa.root, iV pa.give, iV pa.take, sV pa.label, iV pa.index, .slice AP pa.path.length cp, sV po2.label, iV po2.frm, iV po2.to, iV po2.cls, iV po2.acc, iV d1, iV d2] s7 (w9.setCell ⟨X, 31, none⟩ (iV d2))) := HF7.out.mid hp hpX 31 [iV d2] (by simp) (by kernel_rfl)
  have HAC : Hid (Rf X (w9.setCell ⟨X, 31, none⟩ (iV d2)) _ _) := HAC.out.mid 31 [iV d2]
  have HAP : Hid (Rf X (w9.setCell ⟨X, 31, none⟩ (iV d2)) _ _) := HAP.out.mid 31 [iV d2]
  clear xc xf HF7 k1'
  generalize (w9.setCell ⟨X, 31, none⟩ (iV d2)) = W at *
  have HALL : Hid (Step (some b) allP (⟨n0, n1, t1, po, re, pa, po2, d1, d2⟩ : Log) s7) := by
    show Step _ _ _ _
    rw [all_and]
    exact HP0.out.and (HP1.out.and (HP2.out.and (HP3.out.and (HP4.out.and (HP5.out.and (HP6.out.and (HP7.out.and (Step.ret _ _))))))))
  clear HP0 HP1 HP2 HP3 HP4 HP5 HP6 HP7
  obtain ⟨A', c', at_, q0, q1, q2, _, _, hat, _, _, _, hst⟩ := HD.out.2.2.2
  have HST := Lib.hid hst; clear hst q0
  have hXe : (#[iV n0, iV n1, sV t1, sV po.label, iV po.frm, iV po.to, iV po.cls, iV po.acc, iV re.scanner, iV re.number, iV re.kind, iV re.time, sV re.label, .slice AC re.contents.length cc, sV pa.sl, iV pa.frm, iV pa.to, iV pa.time, iV pa.count, iV pa.root, iV pa.give, iV pa.take, sV pa.label, iV pa.index, .slice AP pa.path.length cp, sV po2.label, iV po2.frm, iV po2.to, iV po2.cls, iV po2.acc, iV d1, iV d2] : Array Value) = logCells ⟨n0, n1, t1, po, re, pa, po2, d1, d2⟩ AC cc AP cp := rfl
  have HXE := Lib.hid hXe; clear hXe
  cases s7 with
  | none =>
    have HR : Hid (decodeR b = (zeroLog, 400)) := dec_none fun e he => by have := HALL.out.1; simp [he] at this
    change W.cell? ⟨P, 2, none⟩ = some (.bool true) at q2
    go_wp2_with (first
    | (refine wpList_build (by rfl) 37 #[] (by rfl) (by kernel_rfl) ?_)
    | (refine wpList_store_row (by rfl) 37 (.tmp 2) (.tmp 63) (by rfl) w.heap.size #[iV 0, iV 0, .string ⟨#[]⟩, .string ⟨#[]⟩, iV 0, iV 0, iV 0, iV 0, iV 0, iV 0, iV 0, iV 0, .string ⟨#[]⟩, .slice none 0 0, .string ⟨#[]⟩, iV 0, iV 0, iV 0, iV 0, iV 0, iV 0, iV 0, .string ⟨#[]⟩, iV 0, .slice none 0 0, .string ⟨#[]⟩, iV 0, iV 0, iV 0, iV 0, iV 0, iV 0] (by rfl) (by kernel_rfl) 37 #[iV 0, iV 0, .string ⟨#[]⟩, .string ⟨#[]⟩, iV 0, iV 0, iV 0, iV 0, iV 0, iV 0, iV 0, iV 0, .string ⟨#[]⟩, .slice none 0 0, .string ⟨#[]⟩, iV 0, iV 0, iV 0, iV 0, iV 0, iV 0, iV 0, .string ⟨#[]⟩, iV 0, .slice none 0 0, .string ⟨#[]⟩, iV 0, iV 0, iV 0, iV 0, iV 0, iV 0] HD.out.2.1 lgInf (by rfl) (by simp [Value.oneCell']) ?_)
    | fail)
    exact bodyPost_ret (v := .tuple #[.agg #[iV 0, iV 0, .string ⟨#[]⟩, .string ⟨#[]⟩, iV 0, iV 0, iV 0, iV 0, iV 0, iV 0, iV 0, iV 0, .string ⟨#[]⟩, .slice none 0 0, .string ⟨#[]⟩, iV 0, iV 0, iV 0, iV 0, iV 0, iV 0, iV 0, .string ⟨#[]⟩, iV 0, .slice none 0 0, .string ⟨#[]⟩, iV 0, iV 0, iV 0, iV 0, iV 0, iV 0], iV 400]) (fdec_res (setRow_heap _ _ _ _ _ _ HD.out.2.1) rfl _ rfl rfl) rfl (DecRes.bad2 HR.out (below_row HD.out.2.2.1 (Nat.le_refl _) _))
  | some l =>
    change W.cell? ⟨P, 2, none⟩ = some (.bool false) at q2
    by_cases hlt : at_ < b.length
    · have HR : Hid (decodeR b = (zeroLog, 400)) := dec_none fun e he => by
        have h1 := HALL.out.1
        have h2 := HST.out l rfl
        simp [he] at h1
        rw [h1] at h2
        have := congrArg List.length h2
        rw [List.length_drop] at this
        simp at this
        omega
      have g1 : (at_ : Int) < (b.length : Int) := by omega
      go_wp2_with (first
    | (refine wpList_build (by rfl) 37 #[] (by rfl) (by kernel_rfl) ?_)
    | (refine wpList_store_row (by rfl) 37 (.tmp 2) (.tmp 63) (by rfl) w.heap.size #[iV 0, iV 0, .string ⟨#[]⟩, .string ⟨#[]⟩, iV 0, iV 0, iV 0, iV 0, iV 0, iV 0, iV 0, iV 0, .string ⟨#[]⟩, .slice none 0 0, .string ⟨#[]⟩, iV 0, iV 0, iV 0, iV 0, iV 0, iV 0, iV 0, .string ⟨#[]⟩, iV 0, .slice none 0 0, .string ⟨#[]⟩, iV 0, iV 0, iV 0, iV 0, iV 0, iV 0] (by rfl) (by kernel_rfl) 37 #[iV 0, iV 0, .string ⟨#[]⟩, .string ⟨#[]⟩, iV 0, iV 0, iV 0, iV 0, iV 0, iV 0, iV 0, iV 0, .string ⟨#[]⟩, .slice none 0 0, .string ⟨#[]⟩, iV 0, iV 0, iV 0, iV 0, iV 0, iV 0, iV 0, .string ⟨#[]⟩, iV 0, .slice none 0 0, .string ⟨#[]⟩, iV 0, iV 0, iV 0, iV 0, iV 0, iV 0] HD.out.2.1 lgInf (by rfl) (by simp [Value.oneCell']) ?_)
    | fail)
      exact bodyPost_ret (v := .tuple #[.agg #[iV 0, iV 0, .string ⟨#[]⟩, .string ⟨#[]⟩, iV 0, iV 0, iV 0, iV 0, iV 0, iV 0, iV 0, iV 0, .string ⟨#[]⟩, .slice none 0 0, .string ⟨#[]⟩, iV 0, iV 0, iV 0, iV 0, iV 0, iV 0, iV 0, .string ⟨#[]⟩, iV 0, .slice none 0 0, .string ⟨#[]⟩, iV 0, iV 0, iV 0, iV 0, iV 0, iV 0], iV 400]) (fdec_res (setRow_heap _ _ _ _ _ _ HD.out.2.1) rfl _ rfl rfl) rfl (DecRes.bad2 HR.out (below_row HD.out.2.2.1 (Nat.le_refl _) _))
    · have g1 : ¬ (at_ : Int) < (b.length : Int) := by omega
      have hall : allP b = some ((⟨n0, n1, t1, po, re, pa, po2, d1, d2⟩ : Log), []) := by
        have h1 := HALL.out
        have h2 := HST.out l rfl
        have h3 : l = [] := by rw [h2]; exact List.drop_eq_nil_of_le (by omega)
        subst h3
        cases ha : allP b with
        | none => have := h1.1; simp [ha] at this
        | some y =>
          have e1 := h1.1
          have e2 := h1.2 y (by simpa using ha)
          simp [ha] at e1
          exact congrArg some (Prod.ext e2.symm (by first | exact e1.symm | exact e1))
      obtain ⟨hbe, hte, hoke, _⟩ := all_log hall
      rw [List.append_nil] at hbe
      have HDA := Lib.hid (dec_all hall)
      have HTE := Lib.hid hte
      have HOKE := Lib.hid hoke
      have HLB : Hid ((logB ⟨n0, n1, t1, po, re, pa, po2, d1, d2⟩).length ≤ 1000000) := by show _ ≤ _; rw [← hbe]; omega
      clear hall hbe hte hoke HALL HST
      go_wp2_with (first
        | (refine wpList_step (fun K hK => ?_); rw [if_pos (by rfl)]; refine wp_load_row 37 (.tmp 5) (by rfl) X (by rfl) 37 #[iV n0, iV n1, sV t1, sV po.label, iV po.frm, iV po.to, iV po.cls, iV po.acc, iV re.scanner, iV re.number, iV re.kind, iV re.time, sV re.label, .slice AC re.contents.length cc, sV pa.sl, iV pa.frm, iV pa.to, iV pa.time, iV pa.count, iV pa.root, iV pa.give, iV pa.take, sV pa.label, iV pa.index, .slice AP pa.path.length cp, sV po2.label, iV po2.frm, iV po2.to, iV po2.cls, iV po2.acc, iV d1, iV d2] (0, 0) _ HD.out.1 Try.underlying37 rfl lgInf (hK _ _ ?_); clear hK K)
        | fail)
      refine (fencode_any ⟨n0, n1, t1, po, re, pa, po2, d1, d2⟩ AC cc AP cp _ HOKE.out HAC.out.1 HAP.out.1 HTE.out HLB.out).mono ?_
      rintro x w10 ⟨hb, hres⟩
      have HX10 := Lib.hid ((hb.block _ (block_lt HD.out.1)).trans HD.out.1)
      have HZ10 := Lib.hid ((hb.block _ (block_lt HD.out.2.1)).trans HD.out.2.1)
      have HB10 := Lib.hid (HD.out.2.2.1.trans (hb.mono HD.out.2.2.1.size))
      have HAC := Lib.hid (HAC.out.below hb)
      have HAP := Lib.hid (HAP.out.below hb)
      clear hb
      cases he : encode ⟨n0, n1, t1, po, re, pa, po2, d1, d2⟩ with
      | none =>
        rw [he] at hres
        have hd := HDA.out
        rw [he] at hd
        have HR : Hid (decodeR b = (zeroLog, 400)) := by show _ = _; rw [hd]; rfl
        clear he hd
        subst hres
        go_wp2_with (first
    | (refine wpList_build (by rfl) 37 #[] (by rfl) (by kernel_rfl) ?_)
    | (refine wpList_store_row (by rfl) 37 (.tmp 2) (.tmp 63) (by rfl) w.heap.size #[iV 0, iV 0, .string ⟨#[]⟩, .string ⟨#[]⟩, iV 0, iV 0, iV 0, iV 0, iV 0, iV 0, iV 0, iV 0, .string ⟨#[]⟩, .slice none 0 0, .string ⟨#[]⟩, iV 0, iV 0, iV 0, iV 0, iV 0, iV 0, iV 0, .string ⟨#[]⟩, iV 0, .slice none 0 0, .string ⟨#[]⟩, iV 0, iV 0, iV 0, iV 0, iV 0, iV 0] (by rfl) (by kernel_rfl) 37 #[iV 0, iV 0, .string ⟨#[]⟩, .string ⟨#[]⟩, iV 0, iV 0, iV 0, iV 0, iV 0, iV 0, iV 0, iV 0, .string ⟨#[]⟩, .slice none 0 0, .string ⟨#[]⟩, iV 0, iV 0, iV 0, iV 0, iV 0, iV 0, iV 0, .string ⟨#[]⟩, iV 0, .slice none 0 0, .string ⟨#[]⟩, iV 0, iV 0, iV 0, iV 0, iV 0, iV 0] HZ10.out lgInf (by rfl) (by simp [Value.oneCell']) ?_)
    | fail)
        exact bodyPost_ret (v := .tuple #[.agg #[iV 0, iV 0, .string ⟨#[]⟩, .string ⟨#[]⟩, iV 0, iV 0, iV 0, iV 0, iV 0, iV 0, iV 0, iV 0, .string ⟨#[]⟩, .slice none 0 0, .string ⟨#[]⟩, iV 0, iV 0, iV 0, iV 0, iV 0, iV 0, iV 0, .string ⟨#[]⟩, iV 0, .slice none 0 0, .string ⟨#[]⟩, iV 0, iV 0, iV 0, iV 0, iV 0, iV 0], iV 400]) (fdec_res (setRow_heap _ _ _ _ _ _ HZ10.out) rfl _ rfl rfl) rfl (DecRes.bad2 HR.out (below_row HB10.out (Nat.le_refl _) _))
      | some cb =>
        rw [he] at hres
        have hd := HDA.out
        rw [he] at hd
        have HR : Hid (decodeR b = (⟨n0, n1, t1, po, re, pa, po2, d1, d2⟩, 0)) := by show _ = _; rw [hd]; rfl
        have hpos : 0 < cb.length := by
          have h1 : logW ⟨n0, n1, t1, po, re, pa, po2, d1, d2⟩ = some cb := by
            unfold encode at he
            split at he
            · cases he
            · exact he
          have h2 := ((logW_iff _ cb).1 h1).2.1
          rw [h2]
          simp [logB]
        clear he hd HDA
        obtain ⟨A9, c9, rfl, ho9⟩ := hres
        clear ho9
        have g2 : ¬ (cb.length : Int) = 0 := by omega
        have g3 : ((cb.length : Int) == 0) = false := by simpa using g2
        have g4 : cb ≠ [] := by intro h; subst h; simp at hpos
        go_wp2_with (first
          | (refine wpList_load_row (by rfl) 37 (.tmp 5) (by rfl) X (by rfl) 37 #[iV n0, iV n1, sV t1, sV po.label, iV po.frm, iV po.to, iV po.cls, iV po.acc, iV re.scanner, iV re.number, iV re.kind, iV re.time, sV re.label, .slice AC re.contents.length cc, sV pa.sl, iV pa.frm, iV pa.to, iV pa.time, iV pa.count, iV pa.root, iV pa.give, iV pa.take, sV pa.label, iV pa.index, .slice AP pa.path.length cp, sV po2.label, iV po2.frm, iV po2.to, iV po2.cls, iV po2.acc, iV d1, iV d2] (0, 0) _ HX10.out Try.underlying37 rfl lgInf ?_)
          | (refine wpList_store_row (by rfl) 37 (.tmp 2) (.tmp 64) (by rfl) w.heap.size #[iV n0, iV n1, sV t1, sV po.label, iV po.frm, iV po.to, iV po.cls, iV po.acc, iV re.scanner, iV re.number, iV re.kind, iV re.time, sV re.label, .slice AC re.contents.length cc, sV pa.sl, iV pa.frm, iV pa.to, iV pa.time, iV pa.count, iV pa.root, iV pa.give, iV pa.take, sV pa.label, iV pa.index, .slice AP pa.path.length cp, sV po2.label, iV po2.frm, iV po2.to, iV po2.cls, iV po2.acc, iV d1, iV d2] (by rfl) (by rfl) 37 #[iV 0, iV 0, .string ⟨#[]⟩, .string ⟨#[]⟩, iV 0, iV 0, iV 0, iV 0, iV 0, iV 0, iV 0, iV 0, .string ⟨#[]⟩, .slice none 0 0, .string ⟨#[]⟩, iV 0, iV 0, iV 0, iV 0, iV 0, iV 0, iV 0, .string ⟨#[]⟩, iV 0, .slice none 0 0, .string ⟨#[]⟩, iV 0, iV 0, iV 0, iV 0, iV 0, iV 0] HZ10.out lgInf (by rfl) (by simp [Value.oneCell']) ?_)
          | fail)
        refine bodyPost_ret (v := .tuple #[.agg #[iV n0, iV n1, sV t1, sV po.label, iV po.frm, iV po.to, iV po.cls, iV po.acc, iV re.scanner, iV re.number, iV re.kind, iV re.time, sV re.label, .slice AC re.contents.length cc, sV pa.sl, iV pa.frm, iV pa.to, iV pa.time, iV pa.count, iV pa.root, iV pa.give, iV pa.take, sV pa.label, iV pa.index, .slice AP pa.path.length cp, sV po2.label, iV po2.frm, iV po2.to, iV po2.cls, iV po2.acc, iV d1, iV d2], iV 0]) (fdec_res (setRow_heap _ _ _ _ _ _ HZ10.out) rfl _ rfl rfl) rfl ?_
        refine ⟨below_row HB10.out (Nat.le_refl _) _, AC, cc, AP, cp, by rw [HR.out, HXE.out], ?_, ?_, ?_, ?_⟩
        · rw [HR.out]; exact rd_row HAC.out.1 (fun a ha => by have := HAC.out.2 a ha; omega) _
        · rw [HR.out]; exact rd_row HAP.out.1 (fun a ha => by have := HAP.out.2 a ha; omega) _
        · intro a ha; rw [setRow_size]; exact (HAC.out.2 a ha).2
        · intro a ha; rw [setRow_size]; exact (HAP.out.2 a ha).2
end Go.Proofs.Ytoaembpakmpolaa
