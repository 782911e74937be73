/-
  The walks over slices.Clone, Grow and Concat at bytes.
-/
import Derived.Test.YtoaembpakmpolaaJouSeq
import Derived.Lib.AppendZerosOnto
import Derived.Shelf.RegionOpenPlain
import Derived.Lib.Walk
namespace Go.Proofs.Ytoaembpakmpolaa
open Go.RowKit Jou
attribute [local go_sem] ba_get ba_extract ba_append

theorem byteInf : (Try.prog.info? 5).map (fun i => (i.zero, i.size, i.bytes)) = some (some (.int .u8 0), 1, 1) := by kernel_rfl
set_option maxHeartbeats 1000000 in
set_option maxRecDepth 100000 in
theorem clone_any (l : List UInt8) (b off c : Nat) (w : World) (hA : Rd w (some ⟨b, off, none⟩) (l.map bV)) (hl : l.length ≤ 100000) :
    Calls Try.prog 40 #[.slice (some ⟨b, off, none⟩) l.length c] w fun e w' => ∃ A c', e = .returned (.slice A l.length c') ∧ w'.ownsRow w.heap.size 5 1 (.slice A l.length c') l.length (l.map bV) ∧ Below w.heap.size w w' := by
  obtain ⟨i0, hi0, hz0, hz1, hz2⟩ := info_parts byteInf
  have HA := Lib.hid hA; clear hA
  have hown : Hid ((w.alloc (.cells #[] 5)).ownsRow w.heap.size 5 1 (.slice (some ⟨w.heap.size, 0, none⟩) 0 0) 0 []) :=
    ⟨rfl, .inr ⟨w.heap.size, 0, #[], rfl, Nat.le_refl _, heap_alloc_new _ _, Nat.le_refl _, Nat.zero_le _, rfl, rfl⟩⟩
  have hR : Hid (Rd (w.alloc (.cells #[] 5)) (some ⟨b, off, none⟩) (l.map bV)) := HA.out.below ((Below.refl _ w).alloc (Nat.le_refl _) _)
  have hnil : ∀ W, (binOp .eql 38 (.slice (some ⟨b, off, none⟩) l.length c) (.slice none 0 0)).run Try.prog W = .ok (.bool false) W := fun W => Lib.run_eql_slice_nil W _ _ _ _ _ _ _ Try.underlying38
  go_enter Try.func40, Try.ntmps40
  go_wp2_with (at_builtin; refine wpList_app (by rfl) _ _ _ _ (by rfl) w.heap.size 5 i0 _ 1 1 Try.underlying38 hi0 hz0 hz1 hz2 (by rfl) _ 0 _ (by rfl) hown.out _ (by rfl) l.length (l.map bV) (src_rd Try.underlying38 hR.out (by simp) (one_b l)) (by unfold maxLen; omega) (by omega) (by simp) ?_; intro A1 c1 w1 hown1 hgrow1 _)
  go_ret
  rw [Nat.zero_add] at hown1
  refine ⟨A1, c1, by simp, by simpa using hown1, ?_⟩
  refine (Below.refl _ w).alloc (Nat.le_refl _) (.cells #[] 5) |>.trans ?_
  exact ⟨hgrow1.os, hgrow1.tape, hgrow1.output, hgrow1.size, fun i hi => hgrow1.block i (by simp; omega) (by simp [Value.ownBlock]; omega)⟩

set_option maxHeartbeats 1000000 in
set_option maxRecDepth 100000 in
theorem grow_nil (n : Nat) (w : World) (hn : 1 ≤ n) (hl : n ≤ 1000000) :
    Calls Try.prog 66 #[.slice none 0 0, iV n] w fun e w' => ∃ A c', e = .returned (.slice A 0 c') ∧ w'.ownsRow w.heap.size 5 1 (.slice A 0 c') 0 [] ∧ Below w.heap.size w w' := by
  obtain ⟨i0, hi0, hz0, hz1, hz2⟩ := info_parts byteInf
  have hrz : ∀ ty, ∃ cs : Array Value, (Builtin.append_ #[38, 3] ty #[.slice none 0 0, .int .i64 n]).run Try.prog w = .ok (.slice (some ⟨w.heap.size, 0, none⟩) n (grownCap w n 0 5)) (w.drew.alloc (.cells cs 5)) ∧ cs.size = grownCap w n 0 5 := fun ty => by
    have hge := grownCap_ge w n 0 5
    have h := Lib.run_append_grow_zeros (P := Try.prog) w 38 3 ty 5 i0 _ .i64 .i64 Try.underlying38 Try.underlying3 hi0 hz0 none 0 0 [] (run_firstCells_none w.drew i0.size 0 0 0) n (by omega) (by omega) (by omega) (by omega) (by rw [hz2]; omega) (by rw [hz2]; exact growslice_fits (by omega) (by omega))
    rw [Nat.zero_add] at h
    refine ⟨_, h, ?_⟩
    simp [size_zeroCells, Value.cells]
    omega
  obtain ⟨cs, hrz, hcs⟩ := hrz 38
  have hge := grownCap_ge w n 0 5
  have hG63 := grownCap_le_maxLen w n 0 5 (by unfold maxLen; omega)
  obtain ⟨G, hG⟩ : ∃ G, G = grownCap w n 0 5 := ⟨_, rfl⟩
  rw [← hG] at hrz hge hG63 hcs
  have HG := Lib.hid hG63
  unfold maxLen at hG63
  clear hG
  have HCS := Lib.hid hcs; clear hcs
  go_enter Try.func66, Try.ntmps66
  go_wp2_with (at_builtin; refine Lib.wpList_append_run _ rfl _ _ _ _ rfl _ _ rfl rfl _ _ hrz ?_)
  go_ret
  refine ⟨_, G, rfl, ⟨rfl, .inr ⟨w.heap.size, G, cs, rfl, Nat.le_refl _, heap_alloc_new _ _, Nat.zero_le _, HG.out, by simpa using HCS.out, by simp⟩⟩, ?_⟩
  exact ((Below.refl _ w).drew).alloc (by simp) _

/-- A slice of bytes: where it lies, its capacity, its bytes. -/
abbrev Sl := Option Addr × Nat × List UInt8
abbrev slV (r : Sl) : Value := .slice r.1 r.2.2.length r.2.1
def flat (rows : List Sl) : List UInt8 := (rows.map (·.2.2)).flatten
theorem flat_take (rows : List Sl) (k : Nat) (h : k < rows.length) : flat (rows.take (k + 1)) = flat (rows.take k) ++ rows[k].2.2 := by
  unfold flat
  rw [List.take_succ_eq_append_getElem h, List.map_append, List.flatten_append]
  simp only [List.map_cons, List.map_nil, List.flatten_cons, List.flatten_nil, List.append_nil]
theorem flat_le (rows : List Sl) (k : Nat) : (flat (rows.take k)).length ≤ (flat rows).length := by
  have : flat rows = flat (rows.take k) ++ flat (rows.drop k) := by
    unfold flat
    rw [← List.flatten_append, ← List.map_append, List.take_append_drop]
  rw [this, List.length_append]
  omega
set_option maxHeartbeats 4000000 in
set_option maxRecDepth 100000 in
theorem concat_any (rows : List Sl) (b off c : Nat) (w : World) (hR : Rd w (some ⟨b, off, none⟩) (rows.map slV)) (hA : ∀ r ∈ rows, Rd w r.1 (r.2.2.map bV) ∧ Low w.heap.size r.1)
    (h1 : 1 ≤ (flat rows).length) (hl : (flat rows).length ≤ 100000) (hn : rows.length ≤ 100) :
    Calls Try.prog 38 #[.slice (some ⟨b, off, none⟩) rows.length c] w fun e w' => ∃ A c', e = .returned (.slice A (flat rows).length c') ∧ w'.ownsRow w.heap.size 5 1 (.slice A (flat rows).length c') (flat rows).length ((flat rows).map bV) ∧ Below w.heap.size w w' := by
  obtain ⟨i0, hi0, hz0, hz1, hz2⟩ := info_parts byteInf
  have HR := Lib.hid hR; clear hR
  have HA := Lib.hid hA; clear hA
  go_enter Try.func38, Try.ntmps38
  go_wp2
  go_loop [3, 5, 11] (fun x _ i => ∃ k : Nat, k ≤ rows.length ∧ i = iV k ∧ x = iV (flat (rows.take k)).length) (fun _ _ i => rows.length - (intOf i).toNat)
  case atStart => exact ⟨0, Nat.zero_le _, rfl, rfl⟩
  case round =>
    obtain ⟨k, hk, rfl, rfl⟩ := hrel
    by_cases hlt : k < rows.length
    · have hc := HR.out.cell (i := k) (by simpa using hlt)
      rw [List.getElem_map] at hc
      have hf := flat_le rows (k + 1)
      rw [flat_take rows k hlt, List.length_append] at hf
      have HF : Hid ((flat (rows.take (k + 1))).length = (flat (rows.take k)).length + rows[k].2.2.length) := by show _ = _; rw [flat_take rows k hlt, List.length_append]
      obtain ⟨⟨A1, c1, l1⟩, hr⟩ : ∃ r, r = rows[k] := ⟨_, rfl⟩
      rw [← hr] at hc hf HF
      clear hr
      simp only at hc hf HF
      have hneg : ¬ (((flat (rows.take k)).length : Int) + (l1.length : Int) < 0) := by omega
      go_wp2
      go_round
      case rel => exact ⟨k + 1, by omega, by go_num, by rw [HF.out]; go_num⟩
      case measure => simp [intOf]; omega
    · obtain rfl : k = rows.length := by omega
      rw [List.take_length]
      go_wp2_with fail
      refine (grow_nil (flat rows).length w h1 (by omega)).mono ?_
      rintro e w1 ⟨A1, c1, rfl, hown, hbel⟩
      have HO := Lib.hid hown; clear hown
      have HB := Lib.hid hbel; clear hbel
      go_wp2
      go_loopw [6, 8, 27] (fun v _ i wr => ∃ k : Nat, k ≤ rows.length ∧ i = iV k ∧ wr.ownsRow w.heap.size 5 1 v (flat (rows.take k)).length ((flat (rows.take k)).map bV) ∧ Below w.heap.size w wr) (fun _ _ i _ => rows.length - (intOf i).toNat)
      case atStart => exact ⟨0, Nat.zero_le _, rfl, HO.out, HB.out⟩
      case round =>
        obtain ⟨k, hk, rfl, hown, hbel⟩ := hrel
        have HO2 := Lib.hid hown
        have HB2 := Lib.hid hbel
        obtain ⟨A2, c2, rfl⟩ := own_form hown
        clear hown hbel
        by_cases hlt : k < rows.length
        · have hc := (HR.out.below HB2.out).cell (i := k) (by simpa using hlt)
          rw [List.getElem_map] at hc
          have hf := flat_le rows (k + 1)
          rw [flat_take rows k hlt, List.length_append] at hf
          have HF : Hid (flat (rows.take (k + 1)) = flat (rows.take k) ++ rows[k].2.2) := flat_take rows k hlt
          have hA1 := HA.out rows[k] (List.getElem_mem _)
          obtain ⟨⟨A3, c3, l3⟩, hr⟩ : ∃ r, r = rows[k] := ⟨_, rfl⟩
          rw [← hr] at hc hf HF hA1
          clear hr
          simp only at hc hf HF hA1
          have HA1 : Hid (Rd wr A3 (l3.map bV)) := hA1.1.below HB2.out
          clear hA1
          go_wp2_with (at_builtin; refine wpList_app (by rfl) _ _ _ _ (by rfl) w.heap.size 5 i0 _ 1 1 Try.underlying38 hi0 hz0 hz1 hz2 (by rfl) _ (flat (rows.take k)).length _ (by rfl) HO2.out _ (by rfl) l3.length (l3.map bV) (src_rd Try.underlying38 HA1.out (by simp) (one_b l3)) (by unfold maxLen; omega) (by omega) HB2.out.size ?_; intro A4 c4 w4 hown4 hgrow4 _; have HO4 := Lib.hid hown4; have HG4 := Lib.hid hgrow4; clear hown4 hgrow4)
          go_roundw
          case rel =>
            refine ⟨k + 1, by omega, by go_num, ?_, ?_⟩
            · rw [HF.out, List.length_append, List.map_append]; exact HO4.out
            · exact ⟨HG4.out.os.trans HB2.out.os, HG4.out.tape.trans HB2.out.tape, HG4.out.output.trans HB2.out.output, Nat.le_trans HB2.out.size HG4.out.size, fun i hi => (HG4.out.block i (Nat.lt_of_lt_of_le hi HB2.out.size) (fun e => by have := (HO2.out.lt i e.symm).1; omega)).trans (HB2.out.block i hi)⟩
          case measure => simp [intOf]; omega
        · obtain rfl : k = rows.length := by omega
          rw [List.take_length] at HO2 ⊢
          go_wp2
          go_ret
          exact ⟨A2, c2, rfl, HO2.out, HB2.out⟩
end Go.Proofs.Ytoaembpakmpolaa
