/-
  An entry that comes in as an argument. (Written by a program: wip/jou/gen_olog.py.)
-/
import Derived.Test.YtoaembpakmpolaaJouOpen
namespace Go.Proofs.Ytoaembpakmpolaa
open Go.ChangeShapes Go.WideShapes Go.ChangeAt Go.RowKit Go.WideMaps Go.WideElems Jou

theorem cell_str : Try.prog.cellsOf 9 = 1 := by kernel_rfl
theorem cell_int : Try.prog.cellsOf 3 = 1 := by kernel_rfl
theorem cell_strs : Try.prog.cellsOf 24 = 1 := by kernel_rfl
theorem cell_ints : Try.prog.cellsOf 29 = 1 := by kernel_rfl
theorem cell_post : Try.prog.cellsOf 23 = 5 := by kernel_rfl
theorem cell_record : Try.prog.cellsOf 26 = 6 := by kernel_rfl
theorem cell_doc : Try.prog.cellsOf 28 = 8 := by kernel_rfl
theorem cell_proof : Try.prog.cellsOf 31 = 2 := by kernel_rfl
theorem cell_paper : Try.prog.cellsOf 33 = 11 := by kernel_rfl
theorem cell_claim : Try.prog.cellsOf 35 = 7 := by kernel_rfl
theorem cell_log : Try.prog.cellsOf 37 = 32 := by kernel_rfl

theorem cut (cs : List Value) (o n : Nat) : cs.drop o = (cs.drop o).take n ++ cs.drop (o + n) := by
  rw [← List.drop_drop]; exact (List.take_append_drop n _).symm
theorem choose_list {α : Type} (f : α → Value) (Q : α → Prop) : ∀ (n : Nat) (V : Nat → Value), (∀ i, i < n → ∃ r : α, V i = f r ∧ Q r) → ∃ rows : List α, rows.length = n ∧ (∀ i (h : i < rows.length), V i = f rows[i]) ∧ ∀ r ∈ rows, Q r
  | 0, _, _ => ⟨[], rfl, fun i h => by simp at h, fun r hr => by cases hr⟩
  | n + 1, V, h => by
    obtain ⟨rows, h1, h2, h3⟩ := choose_list f Q n V (fun i hi => h i (by omega))
    obtain ⟨r, hr1, hr2⟩ := h n (by omega)
    refine ⟨rows ++ [r], by simp [h1], fun i hi => ?_, fun x hx => ?_⟩
    · by_cases hin : i < rows.length
      · rw [List.getElem_append_left hin]; exact h2 i hin
      · have : i = rows.length := by simp at hi; omega
        subst this
        rw [List.getElem_append_right (Nat.le_refl _)]
        simpa [h1] using hr1
    · rcases List.mem_append.1 hx with hx | hx
      · exact h3 x hx
      · rw [List.mem_singleton.1 hx]; exact hr2
/-- A list of one-cell elements in cells. -/
theorem list_of {α : Type} {f : α → Value} {Q : α → Prop} {H : Type} {enc : TypeId × Value → H} {W : World} {t e : TypeId} (ht : Try.prog.underlying t = some (.slice e)) (he : Try.prog.cellsOf e = 1)
    (hq : ∀ (fuel : Nat) (v : Value) (x : DataW H × List MemPlace), DataW.trod enc Try.prog W 0 (fun _ => true) true fuel e [v] = some x → ∃ r, v = f r ∧ Q r)
    {cs : List Value} {fuel : Nat} {x : DataW H × List MemPlace} (hf : DataW.trod enc Try.prog W 0 (fun _ => true) true fuel t cs = some x) :
    ∃ A c ns, cs = [.slice A (List.length ns) c] ∧ Rd W A (ns.map f) ∧ ns.length ≤ maxLen ∧ ∀ n ∈ ns, Q n := by
  rcases Deep.open_slice1 ht he hf with ⟨hcs, hx⟩ | ⟨a, len, cap, m, n, V, D, Pl, hcs, _, hl, hm, hmm, hx, hc⟩
  · exact ⟨none, 0, [], hcs, Rd.nil _ _, Nat.zero_le _, fun n hn => by cases hn⟩
  · simp at hmm
    subst hmm
    by_cases hz : len = 0
    · subst hz
      exact ⟨some a, m, [], hcs, Rd.nil _ _, Nat.zero_le _, fun n hn => by cases hn⟩
    obtain ⟨bl, off, sp⟩ := a
    have h0 := cell_lt (hc 0 (by omega)).1
    rw [show (Addr.add ⟨bl, off, sp⟩ 0) = ⟨bl, off, sp⟩ from rfl] at h0
    obtain ⟨hs, hb⟩ := h0
    simp only at hs hb
    subst hs
    obtain ⟨rows, h1, h2, h3⟩ := choose_list f Q len V (fun i hi => hq _ _ _ (hc i (by omega)).2)
    refine ⟨some ⟨bl, off, none⟩, m, rows, by rw [h1]; exact hcs, .inr ⟨bl, off, rfl, hb, fun i u hu => ?_⟩, by rw [h1]; exact Nat.le_trans hl hm, h3⟩
    rw [List.getElem?_map] at hu
    cases hr : rows[i]? with
    | none => rw [hr] at hu; cases hu
    | some k =>
      rw [hr] at hu
      cases hu
      obtain ⟨hi, hk⟩ := List.getElem?_eq_some_iff.1 hr
      have h5 := (hc i (by omega)).1
      rw [add_at] at h5
      rw [h5, h2 i hi, hk]
theorem str_of {H : Type} {enc : TypeId × Value → H} {W : World} {fuel : Nat} {cs : List Value} {x : DataW H × List MemPlace} (h : DataW.trod enc Try.prog W 0 (fun _ => true) true fuel 9 cs = some x) : ∃ l : List UInt8, cs = [sV l] ∧ l.length ≤ maxLen := by
  obtain ⟨s, hs, _, hm⟩ := DataW.trod_string Try.underlying9 h
  refine ⟨s.data.toList, by rw [hs], ?_⟩
  rw [Array.length_toList]
  exact hm
theorem int_of {H : Type} {enc : TypeId × Value → H} {W : World} {fuel : Nat} {cs : List Value} {x : DataW H × List MemPlace} (h : DataW.trod enc Try.prog W 0 (fun _ => true) true fuel 3 cs = some x) : ∃ n : Int, cs = [iV n] ∧ I64 n := by
  obtain ⟨z, hz, _, hw⟩ := DataW.trod_int Try.underlying3 h
  exact ⟨z, hz, bounds_i64 hw⟩
theorem strs_of {H : Type} {enc : TypeId × Value → H} {W : World} {fuel : Nat} {cs : List Value} {x : DataW H × List MemPlace} (h : DataW.trod enc Try.prog W 0 (fun _ => true) true fuel 24 cs = some x) :
    ∃ A c ns, cs = [.slice A (List.length ns) c] ∧ Rd W A (ns.map sV) ∧ ns.length ≤ maxLen ∧ ∀ n ∈ ns, n.length ≤ maxLen :=
  list_of (Q := fun n : List UInt8 => n.length ≤ maxLen) Try.underlying24 cell_str (fun _ _ _ h => by obtain ⟨l, h1, h2⟩ := str_of h; exact ⟨l, by simpa using h1, h2⟩) h
theorem ints_of {H : Type} {enc : TypeId × Value → H} {W : World} {fuel : Nat} {cs : List Value} {x : DataW H × List MemPlace} (h : DataW.trod enc Try.prog W 0 (fun _ => true) true fuel 29 cs = some x) :
    ∃ A c ns, cs = [.slice A (List.length ns) c] ∧ Rd W A (ns.map iV) ∧ ns.length ≤ maxLen ∧ ∀ n ∈ ns, I64 n :=
  list_of Try.underlying29 cell_int (fun _ _ _ h => by obtain ⟨l, h1, h2⟩ := int_of h; exact ⟨l, by simpa using h1, h2⟩) h
theorem fld {H : Type} {enc : TypeId × Value → H} {W : World} {m i o k : Nat} {t : TypeId} {cs : List Value} {xs : List (DataW H × List MemPlace)} (hc : Try.prog.cellsOf t = k) (hi : i < xs.length) (h : DataW.trod enc Try.prog W 0 (fun _ => true) true m t ((cs.drop o).take (Try.prog.cellsOf t)) = xs[i]?) :
    ∃ y, DataW.trod enc Try.prog W 0 (fun _ => true) true m t ((cs.drop o).take k) = some y := by
  rw [hc] at h
  exact ⟨_, h.trans (List.getElem?_eq_getElem hi)⟩

set_option maxRecDepth 100000 in
theorem post_of {H : Type} {enc : TypeId × Value → H} {W : World} {fuel : Nat} {cs : List Value} {x : DataW H × List MemPlace} (h : DataW.trod enc Try.prog W 0 (fun _ => true) true fuel 23 cs = some x) :
    ∃ (x0 : List UInt8) (x1 : Int) (x2 : Int) (x3 : Int) (x4 : Int), cs = [sV x0, iV x1, iV x2, iV x3, iV x4] ∧ x0.length ≤ maxLen ∧ I64 x1 ∧ I64 x2 ∧ I64 x3 ∧ I64 x4 := by
  obtain ⟨xs, m, _, _, hlen, hxl, hf⟩ := DataW.trod_struct Try.underlying23 h
  rw [cell_post] at hlen
  have hxl' : xs.length = 5 := hxl
  obtain ⟨y0, h0⟩ := fld (o := 0) cell_str (by rw [hxl']; decide) (hf 0 _ rfl)
  obtain ⟨x0, e0, f0⟩ := str_of h0
  obtain ⟨y1, h1⟩ := fld (o := 1) cell_int (by rw [hxl']; decide) (hf 1 _ rfl)
  obtain ⟨x1, e1, f1⟩ := int_of h1
  obtain ⟨y2, h2⟩ := fld (o := 2) cell_int (by rw [hxl']; decide) (hf 2 _ rfl)
  obtain ⟨x2, e2, f2⟩ := int_of h2
  obtain ⟨y3, h3⟩ := fld (o := 3) cell_int (by rw [hxl']; decide) (hf 3 _ rfl)
  obtain ⟨x3, e3, f3⟩ := int_of h3
  obtain ⟨y4, h4⟩ := fld (o := 4) cell_int (by rw [hxl']; decide) (hf 4 _ rfl)
  obtain ⟨x4, e4, f4⟩ := int_of h4
  have hcs : cs = [sV x0, iV x1, iV x2, iV x3, iV x4] := by
    have hend : cs.drop 5 = [] := List.drop_eq_nil_of_le (by omega)
    have h00 : cs = cs.drop 0 := rfl
    rw [h00, cut cs 0 1, e0, show 0 + 1 = 1 from rfl, cut cs 1 1, e1, show 1 + 1 = 2 from rfl, cut cs 2 1, e2, show 2 + 1 = 3 from rfl, cut cs 3 1, e3, show 3 + 1 = 4 from rfl, cut cs 4 1, e4, show 4 + 1 = 5 from rfl, hend]
    rfl
  exact ⟨x0, x1, x2, x3, x4, hcs, f0, f1, f2, f3, f4⟩
set_option maxRecDepth 100000 in
theorem record_of {H : Type} {enc : TypeId × Value → H} {W : World} {fuel : Nat} {cs : List Value} {x : DataW H × List MemPlace} (h : DataW.trod enc Try.prog W 0 (fun _ => true) true fuel 26 cs = some x) :
    ∃ (x0 : Int) (x1 : Int) (x2 : Int) (x3 : Int) (x4 : List UInt8) (A5 : Option Addr) (c5 : Nat) (x5 : List (List UInt8)), cs = [iV x0, iV x1, iV x2, iV x3, sV x4, .slice A5 (List.length x5) c5] ∧ I64 x0 ∧ I64 x1 ∧ I64 x2 ∧ I64 x3 ∧ x4.length ≤ maxLen ∧ Rd W A5 (x5.map sV) ∧ x5.length ≤ maxLen ∧ (∀ n ∈ x5, n.length ≤ maxLen) := by
  obtain ⟨xs, m, _, _, hlen, hxl, hf⟩ := DataW.trod_struct Try.underlying26 h
  rw [cell_record] at hlen
  have hxl' : xs.length = 6 := hxl
  obtain ⟨y0, h0⟩ := fld (o := 0) cell_int (by rw [hxl']; decide) (hf 0 _ rfl)
  obtain ⟨x0, e0, f0⟩ := int_of h0
  obtain ⟨y1, h1⟩ := fld (o := 1) cell_int (by rw [hxl']; decide) (hf 1 _ rfl)
  obtain ⟨x1, e1, f1⟩ := int_of h1
  obtain ⟨y2, h2⟩ := fld (o := 2) cell_int (by rw [hxl']; decide) (hf 2 _ rfl)
  obtain ⟨x2, e2, f2⟩ := int_of h2
  obtain ⟨y3, h3⟩ := fld (o := 3) cell_int (by rw [hxl']; decide) (hf 3 _ rfl)
  obtain ⟨x3, e3, f3⟩ := int_of h3
  obtain ⟨y4, h4⟩ := fld (o := 4) cell_str (by rw [hxl']; decide) (hf 4 _ rfl)
  obtain ⟨x4, e4, f4⟩ := str_of h4
  obtain ⟨y5, h5⟩ := fld (o := 5) cell_strs (by rw [hxl']; decide) (hf 5 _ rfl)
  obtain ⟨A5, c5, x5, e5, f5a, f5b, f5c⟩ := strs_of h5
  have hcs : cs = [iV x0, iV x1, iV x2, iV x3, sV x4, .slice A5 (List.length x5) c5] := by
    have hend : cs.drop 6 = [] := List.drop_eq_nil_of_le (by omega)
    have h00 : cs = cs.drop 0 := rfl
    rw [h00, cut cs 0 1, e0, show 0 + 1 = 1 from rfl, cut cs 1 1, e1, show 1 + 1 = 2 from rfl, cut cs 2 1, e2, show 2 + 1 = 3 from rfl, cut cs 3 1, e3, show 3 + 1 = 4 from rfl, cut cs 4 1, e4, show 4 + 1 = 5 from rfl, cut cs 5 1, e5, show 5 + 1 = 6 from rfl, hend]
    rfl
  exact ⟨x0, x1, x2, x3, x4, A5, c5, x5, hcs, f0, f1, f2, f3, f4, f5a, f5b, f5c⟩
set_option maxRecDepth 100000 in
theorem doc_of {H : Type} {enc : TypeId × Value → H} {W : World} {fuel : Nat} {cs : List Value} {x : DataW H × List MemPlace} (h : DataW.trod enc Try.prog W 0 (fun _ => true) true fuel 28 cs = some x) :
    ∃ (x0 : List UInt8) (x1 : Int) (x2 : Int) (x3 : Int) (x4 : Int) (x5 : Int) (x6 : Int) (x7 : Int), cs = [sV x0, iV x1, iV x2, iV x3, iV x4, iV x5, iV x6, iV x7] ∧ x0.length ≤ maxLen ∧ I64 x1 ∧ I64 x2 ∧ I64 x3 ∧ I64 x4 ∧ I64 x5 ∧ I64 x6 ∧ I64 x7 := by
  obtain ⟨xs, m, _, _, hlen, hxl, hf⟩ := DataW.trod_struct Try.underlying28 h
  rw [cell_doc] at hlen
  have hxl' : xs.length = 8 := hxl
  obtain ⟨y0, h0⟩ := fld (o := 0) cell_str (by rw [hxl']; decide) (hf 0 _ rfl)
  obtain ⟨x0, e0, f0⟩ := str_of h0
  obtain ⟨y1, h1⟩ := fld (o := 1) cell_int (by rw [hxl']; decide) (hf 1 _ rfl)
  obtain ⟨x1, e1, f1⟩ := int_of h1
  obtain ⟨y2, h2⟩ := fld (o := 2) cell_int (by rw [hxl']; decide) (hf 2 _ rfl)
  obtain ⟨x2, e2, f2⟩ := int_of h2
  obtain ⟨y3, h3⟩ := fld (o := 3) cell_int (by rw [hxl']; decide) (hf 3 _ rfl)
  obtain ⟨x3, e3, f3⟩ := int_of h3
  obtain ⟨y4, h4⟩ := fld (o := 4) cell_int (by rw [hxl']; decide) (hf 4 _ rfl)
  obtain ⟨x4, e4, f4⟩ := int_of h4
  obtain ⟨y5, h5⟩ := fld (o := 5) cell_int (by rw [hxl']; decide) (hf 5 _ rfl)
  obtain ⟨x5, e5, f5⟩ := int_of h5
  obtain ⟨y6, h6⟩ := fld (o := 6) cell_int (by rw [hxl']; decide) (hf 6 _ rfl)
  obtain ⟨x6, e6, f6⟩ := int_of h6
  obtain ⟨y7, h7⟩ := fld (o := 7) cell_int (by rw [hxl']; decide) (hf 7 _ rfl)
  obtain ⟨x7, e7, f7⟩ := int_of h7
  have hcs : cs = [sV x0, iV x1, iV x2, iV x3, iV x4, iV x5, iV x6, iV x7] := by
    have hend : cs.drop 8 = [] := List.drop_eq_nil_of_le (by omega)
    have h00 : cs = cs.drop 0 := rfl
    rw [h00, cut cs 0 1, e0, show 0 + 1 = 1 from rfl, cut cs 1 1, e1, show 1 + 1 = 2 from rfl, cut cs 2 1, e2, show 2 + 1 = 3 from rfl, cut cs 3 1, e3, show 3 + 1 = 4 from rfl, cut cs 4 1, e4, show 4 + 1 = 5 from rfl, cut cs 5 1, e5, show 5 + 1 = 6 from rfl, cut cs 6 1, e6, show 6 + 1 = 7 from rfl, cut cs 7 1, e7, show 7 + 1 = 8 from rfl, hend]
    rfl
  exact ⟨x0, x1, x2, x3, x4, x5, x6, x7, hcs, f0, f1, f2, f3, f4, f5, f6, f7⟩
set_option maxRecDepth 100000 in
theorem proof_of {H : Type} {enc : TypeId × Value → H} {W : World} {fuel : Nat} {cs : List Value} {x : DataW H × List MemPlace} (h : DataW.trod enc Try.prog W 0 (fun _ => true) true fuel 31 cs = some x) :
    ∃ (x0 : Int) (A1 : Option Addr) (c1 : Nat) (x1 : List Int), cs = [iV x0, .slice A1 (List.length x1) c1] ∧ I64 x0 ∧ Rd W A1 (x1.map iV) ∧ x1.length ≤ maxLen ∧ (∀ n ∈ x1, I64 n) := by
  obtain ⟨xs, m, _, _, hlen, hxl, hf⟩ := DataW.trod_struct Try.underlying31 h
  rw [cell_proof] at hlen
  have hxl' : xs.length = 2 := hxl
  obtain ⟨y0, h0⟩ := fld (o := 0) cell_int (by rw [hxl']; decide) (hf 0 _ rfl)
  obtain ⟨x0, e0, f0⟩ := int_of h0
  obtain ⟨y1, h1⟩ := fld (o := 1) cell_ints (by rw [hxl']; decide) (hf 1 _ rfl)
  obtain ⟨A1, c1, x1, e1, f1a, f1b, f1c⟩ := ints_of h1
  have hcs : cs = [iV x0, .slice A1 (List.length x1) c1] := by
    have hend : cs.drop 2 = [] := List.drop_eq_nil_of_le (by omega)
    have h00 : cs = cs.drop 0 := rfl
    rw [h00, cut cs 0 1, e0, show 0 + 1 = 1 from rfl, cut cs 1 1, e1, show 1 + 1 = 2 from rfl, hend]
    rfl
  exact ⟨x0, A1, c1, x1, hcs, f0, f1a, f1b, f1c⟩
set_option maxRecDepth 100000 in
theorem paper_of {H : Type} {enc : TypeId × Value → H} {W : World} {fuel : Nat} {cs : List Value} {x : DataW H × List MemPlace} (h : DataW.trod enc Try.prog W 0 (fun _ => true) true fuel 33 cs = some x) :
    ∃ (x0 : List UInt8) (x1 : Int) (x2 : Int) (x3 : Int) (x4 : Int) (x5 : Int) (x6 : Int) (x7 : Int) (x8 : List UInt8) (x9 : Int) (A10 : Option Addr) (c10 : Nat) (x10 : List Int), cs = [sV x0, iV x1, iV x2, iV x3, iV x4, iV x5, iV x6, iV x7, sV x8, iV x9, .slice A10 (List.length x10) c10] ∧ x0.length ≤ maxLen ∧ I64 x1 ∧ I64 x2 ∧ I64 x3 ∧ I64 x4 ∧ I64 x5 ∧ I64 x6 ∧ I64 x7 ∧ x8.length ≤ maxLen ∧ I64 x9 ∧ Rd W A10 (x10.map iV) ∧ x10.length ≤ maxLen ∧ (∀ n ∈ x10, I64 n) := by
  obtain ⟨xs, m, _, _, hlen, hxl, hf⟩ := DataW.trod_struct Try.underlying33 h
  rw [cell_paper] at hlen
  have hxl' : xs.length = 3 := hxl
  obtain ⟨y0, h0⟩ := fld (o := 0) cell_doc (by rw [hxl']; decide) (hf 0 _ rfl)
  obtain ⟨x0, x1, x2, x3, x4, x5, x6, x7, e0, f0, f1, f2, f3, f4, f5, f6, f7⟩ := doc_of h0
  obtain ⟨y1, h1⟩ := fld (o := 8) cell_str (by rw [hxl']; decide) (hf 1 _ rfl)
  obtain ⟨x8, e1, f8⟩ := str_of h1
  obtain ⟨y2, h2⟩ := fld (o := 9) cell_proof (by rw [hxl']; decide) (hf 2 _ rfl)
  obtain ⟨x9, A10, c10, x10, e2, f9, f10a, f10b, f10c⟩ := proof_of h2
  have hcs : cs = [sV x0, iV x1, iV x2, iV x3, iV x4, iV x5, iV x6, iV x7, sV x8, iV x9, .slice A10 (List.length x10) c10] := by
    have hend : cs.drop 11 = [] := List.drop_eq_nil_of_le (by omega)
    have h00 : cs = cs.drop 0 := rfl
    rw [h00, cut cs 0 8, e0, show 0 + 8 = 8 from rfl, cut cs 8 1, e1, show 8 + 1 = 9 from rfl, cut cs 9 2, e2, show 9 + 2 = 11 from rfl, hend]
    rfl
  exact ⟨x0, x1, x2, x3, x4, x5, x6, x7, x8, x9, A10, c10, x10, hcs, f0, f1, f2, f3, f4, f5, f6, f7, f8, f9, f10a, f10b, f10c⟩
set_option maxRecDepth 100000 in
theorem claim_of {H : Type} {enc : TypeId × Value → H} {W : World} {fuel : Nat} {cs : List Value} {x : DataW H × List MemPlace} (h : DataW.trod enc Try.prog W 0 (fun _ => true) true fuel 35 cs = some x) :
    ∃ (x0 : List UInt8) (x1 : Int) (x2 : Int) (x3 : Int) (x4 : Int) (x5 : Int) (x6 : Int), cs = [sV x0, iV x1, iV x2, iV x3, iV x4, iV x5, iV x6] ∧ x0.length ≤ maxLen ∧ I64 x1 ∧ I64 x2 ∧ I64 x3 ∧ I64 x4 ∧ I64 x5 ∧ I64 x6 := by
  obtain ⟨xs, m, _, _, hlen, hxl, hf⟩ := DataW.trod_struct Try.underlying35 h
  rw [cell_claim] at hlen
  have hxl' : xs.length = 3 := hxl
  obtain ⟨y0, h0⟩ := fld (o := 0) cell_post (by rw [hxl']; decide) (hf 0 _ rfl)
  obtain ⟨x0, x1, x2, x3, x4, e0, f0, f1, f2, f3, f4⟩ := post_of h0
  obtain ⟨y1, h1⟩ := fld (o := 5) cell_int (by rw [hxl']; decide) (hf 1 _ rfl)
  obtain ⟨x5, e1, f5⟩ := int_of h1
  obtain ⟨y2, h2⟩ := fld (o := 6) cell_int (by rw [hxl']; decide) (hf 2 _ rfl)
  obtain ⟨x6, e2, f6⟩ := int_of h2
  have hcs : cs = [sV x0, iV x1, iV x2, iV x3, iV x4, iV x5, iV x6] := by
    have hend : cs.drop 7 = [] := List.drop_eq_nil_of_le (by omega)
    have h00 : cs = cs.drop 0 := rfl
    rw [h00, cut cs 0 5, e0, show 0 + 5 = 5 from rfl, cut cs 5 1, e1, show 5 + 1 = 6 from rfl, cut cs 6 1, e2, show 6 + 1 = 7 from rfl, hend]
    rfl
  exact ⟨x0, x1, x2, x3, x4, x5, x6, hcs, f0, f1, f2, f3, f4, f5, f6⟩
set_option maxRecDepth 100000 in
theorem log_of {H : Type} {enc : TypeId × Value → H} {W : World} {fuel : Nat} {cs : List Value} {x : DataW H × List MemPlace} (h : DataW.trod enc Try.prog W 0 (fun _ => true) true fuel 37 cs = some x) :
    ∃ (x0 : Int) (x1 : Int) (x2 : List UInt8) (x3 : List UInt8) (x4 : Int) (x5 : Int) (x6 : Int) (x7 : Int) (x8 : Int) (x9 : Int) (x10 : Int) (x11 : Int) (x12 : List UInt8) (A13 : Option Addr) (c13 : Nat) (x13 : List (List UInt8)) (x14 : List UInt8) (x15 : Int) (x16 : Int) (x17 : Int) (x18 : Int) (x19 : Int) (x20 : Int) (x21 : Int) (x22 : List UInt8) (x23 : Int) (A24 : Option Addr) (c24 : Nat) (x24 : List Int) (x25 : List UInt8) (x26 : Int) (x27 : Int) (x28 : Int) (x29 : Int) (x30 : Int) (x31 : Int), cs = [iV x0, iV x1, sV x2, sV x3, iV x4, iV x5, iV x6, iV x7, iV x8, iV x9, iV x10, iV x11, sV x12, .slice A13 (List.length x13) c13, sV x14, iV x15, iV x16, iV x17, iV x18, iV x19, iV x20, iV x21, sV x22, iV x23, .slice A24 (List.length x24) c24, sV x25, iV x26, iV x27, iV x28, iV x29, iV x30, iV x31] ∧ I64 x0 ∧ I64 x1 ∧ x2.length ≤ maxLen ∧ x3.length ≤ maxLen ∧ I64 x4 ∧ I64 x5 ∧ I64 x6 ∧ I64 x7 ∧ I64 x8 ∧ I64 x9 ∧ I64 x10 ∧ I64 x11 ∧ x12.length ≤ maxLen ∧ Rd W A13 (x13.map sV) ∧ x13.length ≤ maxLen ∧ (∀ n ∈ x13, n.length ≤ maxLen) ∧ x14.length ≤ maxLen ∧ I64 x15 ∧ I64 x16 ∧ I64 x17 ∧ I64 x18 ∧ I64 x19 ∧ I64 x20 ∧ I64 x21 ∧ x22.length ≤ maxLen ∧ I64 x23 ∧ Rd W A24 (x24.map iV) ∧ x24.length ≤ maxLen ∧ (∀ n ∈ x24, I64 n) ∧ x25.length ≤ maxLen ∧ I64 x26 ∧ I64 x27 ∧ I64 x28 ∧ I64 x29 ∧ I64 x30 ∧ I64 x31 := by
  obtain ⟨xs, m, _, _, hlen, hxl, hf⟩ := DataW.trod_struct Try.underlying37 h
  rw [cell_log] at hlen
  have hxl' : xs.length = 7 := hxl
  obtain ⟨y0, h0⟩ := fld (o := 0) cell_int (by rw [hxl']; decide) (hf 0 _ rfl)
  obtain ⟨x0, e0, f0⟩ := int_of h0
  obtain ⟨y1, h1⟩ := fld (o := 1) cell_int (by rw [hxl']; decide) (hf 1 _ rfl)
  obtain ⟨x1, e1, f1⟩ := int_of h1
  obtain ⟨y2, h2⟩ := fld (o := 2) cell_str (by rw [hxl']; decide) (hf 2 _ rfl)
  obtain ⟨x2, e2, f2⟩ := str_of h2
  obtain ⟨y3, h3⟩ := fld (o := 3) cell_post (by rw [hxl']; decide) (hf 3 _ rfl)
  obtain ⟨x3, x4, x5, x6, x7, e3, f3, f4, f5, f6, f7⟩ := post_of h3
  obtain ⟨y4, h4⟩ := fld (o := 8) cell_record (by rw [hxl']; decide) (hf 4 _ rfl)
  obtain ⟨x8, x9, x10, x11, x12, A13, c13, x13, e4, f8, f9, f10, f11, f12, f13a, f13b, f13c⟩ := record_of h4
  obtain ⟨y5, h5⟩ := fld (o := 14) cell_paper (by rw [hxl']; decide) (hf 5 _ rfl)
  obtain ⟨x14, x15, x16, x17, x18, x19, x20, x21, x22, x23, A24, c24, x24, e5, f14, f15, f16, f17, f18, f19, f20, f21, f22, f23, f24a, f24b, f24c⟩ := paper_of h5
  obtain ⟨y6, h6⟩ := fld (o := 25) cell_claim (by rw [hxl']; decide) (hf 6 _ rfl)
  obtain ⟨x25, x26, x27, x28, x29, x30, x31, e6, f25, f26, f27, f28, f29, f30, f31⟩ := claim_of h6
  have hcs : cs = [iV x0, iV x1, sV x2, sV x3, iV x4, iV x5, iV x6, iV x7, iV x8, iV x9, iV x10, iV x11, sV x12, .slice A13 (List.length x13) c13, sV x14, iV x15, iV x16, iV x17, iV x18, iV x19, iV x20, iV x21, sV x22, iV x23, .slice A24 (List.length x24) c24, sV x25, iV x26, iV x27, iV x28, iV x29, iV x30, iV x31] := by
    have hend : cs.drop 32 = [] := List.drop_eq_nil_of_le (by omega)
    have h00 : cs = cs.drop 0 := rfl
    rw [h00, cut cs 0 1, e0, show 0 + 1 = 1 from rfl, cut cs 1 1, e1, show 1 + 1 = 2 from rfl, cut cs 2 1, e2, show 2 + 1 = 3 from rfl, cut cs 3 5, e3, show 3 + 5 = 8 from rfl, cut cs 8 6, e4, show 8 + 6 = 14 from rfl, cut cs 14 11, e5, show 14 + 11 = 25 from rfl, cut cs 25 7, e6, show 25 + 7 = 32 from rfl, hend]
    rfl
  exact ⟨x0, x1, x2, x3, x4, x5, x6, x7, x8, x9, x10, x11, x12, A13, c13, x13, x14, x15, x16, x17, x18, x19, x20, x21, x22, x23, A24, c24, x24, x25, x26, x27, x28, x29, x30, x31, hcs, f0, f1, f2, f3, f4, f5, f6, f7, f8, f9, f10, f11, f12, f13a, f13b, f13c, f14, f15, f16, f17, f18, f19, f20, f21, f22, f23, f24a, f24b, f24c, f25, f26, f27, f28, f29, f30, f31⟩
theorem types_log : Try.prog.cellTypes Try.prog.depth 37 = some [3, 3, 9, 9, 3, 3, 3, 3, 3, 3, 3, 3, 9, 24, 9, 3, 3, 3, 3, 3, 3, 3, 9, 3, 29, 9, 3, 3, 3, 3, 3, 3] := by kernel_rfl
/-- An entry that came in. -/
def Lg (W : World) (e : Log) (AC AP : Option Addr) : Prop := Log.In e ∧ Rd W AC (e.rcd.contents.map sV) ∧ Rd W AP (e.paper.path.map iV) ∧ Low W.heap.size AC ∧ Low W.heap.size AP
theorem Lg.below {w w' : World} {e : Log} {AC AP : Option Addr} (h : Lg w e AC AP) (hb : Below w.heap.size w w') : Lg w' e AC AP :=
  ⟨h.1, h.2.1.below hb, h.2.2.1.below hb, h.2.2.2.1.mono hb.size, h.2.2.2.2.mono hb.size⟩
set_option maxRecDepth 100000 in
theorem low_of {W : World} {base : Nat} {t e : TypeId} {A : Option Addr} {len cap : Nat} (ht : Try.prog.underlying t = some (.slice e)) (h : Cell.okWide Try.prog W .any base t (.slice A len cap)) : Low W.heap.size A := fun a ha => by
  subst ha
  exact (slice_there (base := base) (len := len) (cap := cap) ht (by unfold Value.okWide; rw [ht]; exact h)).2
set_option maxRecDepth 100000 in
theorem open_log {H : Type} {enc : TypeId × Value → H} {W : World} {base : Nat} {v : Value} {d : DataW H} {ps : List MemPlace} (hval : Value.okWide Try.prog W .any base 37 v) (h : DataW.Trod enc Try.prog W 0 (fun _ => true) true 37 v d ps) :
    ∃ e AC cc AP cp, v = .agg (logCells e AC cc AP cp) ∧ Lg W e AC AP := by
  have hv : ∃ cs, v = .agg cs ∧ cs.size = Try.prog.cellsOf 37 ∧ Row.okWide Try.prog W .any base 37 cs := by
    unfold Value.okWide at hval
    rw [Try.underlying37] at hval
    exact hval
  obtain ⟨cs, rfl, hsz, ts, hts, _, hrow⟩ := hv
  rw [types_log] at hts
  obtain rfl := Option.some.inj hts
  obtain ⟨fuel, hf⟩ := h
  obtain ⟨x0, x1, x2, x3, x4, x5, x6, x7, x8, x9, x10, x11, x12, A13, c13, x13, x14, x15, x16, x17, x18, x19, x20, x21, x22, x23, A24, c24, x24, x25, x26, x27, x28, x29, x30, x31, hcs, f0, f1, f2, f3, f4, f5, f6, f7, f8, f9, f10, f11, f12, f13a, f13b, f13c, f14, f15, f16, f17, f18, f19, f20, f21, f22, f23, f24a, f24b, f24c, f25, f26, f27, f28, f29, f30, f31⟩ := log_of hf
  have hcs' : cs = #[iV x0, iV x1, sV x2, sV x3, iV x4, iV x5, iV x6, iV x7, iV x8, iV x9, iV x10, iV x11, sV x12, .slice A13 (List.length x13) c13, sV x14, iV x15, iV x16, iV x17, iV x18, iV x19, iV x20, iV x21, sV x22, iV x23, .slice A24 (List.length x24) c24, sV x25, iV x26, iV x27, iV x28, iV x29, iV x30, iV x31] := by
    have : cs.toList = [iV x0, iV x1, sV x2, sV x3, iV x4, iV x5, iV x6, iV x7, iV x8, iV x9, iV x10, iV x11, sV x12, .slice A13 (List.length x13) c13, sV x14, iV x15, iV x16, iV x17, iV x18, iV x19, iV x20, iV x21, sV x22, iV x23, .slice A24 (List.length x24) c24, sV x25, iV x26, iV x27, iV x28, iV x29, iV x30, iV x31] := hcs
    rw [← Array.toArray_toList (xs := cs), this]
  subst hcs'
  obtain ⟨u1, hu1, hl1⟩ := hrow 13 _ rfl
  obtain ⟨u2, hu2, hl2⟩ := hrow 24 _ rfl
  obtain rfl : 24 = u1 := Option.some.inj hu1
  obtain rfl : 29 = u2 := Option.some.inj hu2
  refine ⟨⟨x0, x1, x2, ⟨x3, x4, x5, x6, x7⟩, ⟨x8, x9, x10, x11, x12, x13⟩, ⟨x14, x15, x16, x17, x18, x19, x20, x21, x22, x23, x24⟩, ⟨x25, x26, x27, x28, x29⟩, x30, x31⟩, A13, c13, A24, c24, rfl, ⟨f0, f1, f2, f3, ?_, ?_, f12, f13b, f13c, f14, ?_, f22, f24b, f24c, f25, ?_⟩, f13a, f24a, low_of Try.underlying24 hl1, low_of Try.underlying29 hl2⟩
  all_goals
    intro n hn
    simp only [List.mem_cons, List.not_mem_nil, or_false] at hn
    rcases hn with rfl | rfl | rfl | rfl | hn
    all_goals try assumption
    all_goals rcases hn with rfl | rfl | rfl | rfl
    all_goals assumption
end Go.Proofs.Ytoaembpakmpolaa
