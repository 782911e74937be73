/-
  The walks over few and written.
-/
import Derived.Test.YtoaembpakmpolaaJouOpen
namespace Go.Proofs.Ytoaembpakmpolaa
open Go.RowKit Jou
attribute [local go_sem] ba_get ba_extract ba_append

def fewB (rows : List Sl) : Bool := rows.all (fun r => decide (1 ≤ r.2.2.length ∧ r.2.2.length ≤ 300)) && decide ((rows.length : Int) ≤ 12)
theorem few_false {rows : List Sl} {k : Nat} (hk : k < rows.length) (h : ¬ (1 ≤ rows[k].2.2.length ∧ rows[k].2.2.length ≤ 300)) : fewB rows = false := by
  unfold fewB
  rw [Bool.and_eq_false_iff]
  left
  rw [List.all_eq_false]
  exact ⟨rows[k], List.getElem_mem _, by simpa using h⟩
theorem few_end {rows : List Sl} (h : ∀ i (hi : i < rows.length), 1 ≤ rows[i].2.2.length ∧ rows[i].2.2.length ≤ 300) : fewB rows = decide ((rows.length : Int) ≤ 12) := by
  unfold fewB
  rw [show rows.all (fun r => decide (1 ≤ r.2.2.length ∧ r.2.2.length ≤ 300)) = true from List.all_eq_true.2 fun r hr => by
    obtain ⟨i, hi, rfl⟩ := List.getElem_of_mem hr
    exact decide_eq_true (h i hi)]
  rfl
theorem few_all {rows : List Sl} (h : fewB rows = true) : (∀ r ∈ rows, 1 ≤ r.2.2.length ∧ r.2.2.length ≤ 300) ∧ rows.length ≤ 12 := by
  unfold fewB at h
  rw [Bool.and_eq_true, List.all_eq_true] at h
  refine ⟨fun r hr => of_decide_eq_true (h.1 r hr), ?_⟩
  have := of_decide_eq_true h.2
  omega
set_option maxHeartbeats 2000000 in
set_option maxRecDepth 100000 in
theorem few_any (rows : List Sl) (A : Option Addr) (c : Nat) (w : World) (hA : Rows0 w A c rows) :
    Calls Try.prog 23 #[.slice A rows.length c] w (Quiet w (.bool (fewB rows))) := by
  have HA := Lib.hid hA; clear hA
  have hl : rows.length ≤ 9223372036854775807 := by have := HA.out.2.2; unfold maxLen at this; omega
  go_enter Try.func23, Try.ntmps23
  go_wp2
  go_loopw [3] (fun i wr => ∃ k n : Nat, k ≤ rows.length ∧ i = iV k ∧ wr = w.drewN n ∧ Hid (∀ i (hi : i < rows.length), i < k → 1 ≤ rows[i].2.2.length ∧ rows[i].2.2.length ≤ 300)) (fun i _ => rows.length - (intOf i).toNat)
  case atStart => exact ⟨0, 0, Nat.zero_le _, rfl, rfl, fun i _ h => by omega⟩
  case round =>
    obtain ⟨k, n, hk, rfl, rfl, HP⟩ := hrel
    by_cases hlt : k < rows.length
    · obtain ⟨b1, o1, rfl, hb1, hc1⟩ := HA.out.1.get (i := k) (by simpa using hlt)
      have hm1 : rows[k].2.2.length ≤ 9223372036854775807 := by have := HA.out.2.2.2.2 rows[k] (List.getElem_mem _); have := this.2; unfold maxLen at this; omega
      have k1 : w.cell? ⟨b1, o1 + k, none⟩ = some (.slice rows[k].1 rows[k].2.2.length rows[k].2.1) := hc1 k _ (by rw [List.getElem?_map, List.getElem?_eq_getElem hlt]; rfl)
      have FF : Hid (¬ (1 ≤ rows[k].2.2.length ∧ rows[k].2.2.length ≤ 300) → fewB rows = false) := few_false hlt
      clear hc1
      have i1 : (0 : Int) ≤ (k : Int) := by omega
      have i2 : (k : Int) < (rows.length : Int) := by omega
      obtain ⟨x, hx⟩ : ∃ x, rows[k].2.2.length = x := ⟨_, rfl⟩
      have HX := Lib.hid hx
      rw [hx] at k1 hm1 FF
      clear hx
      by_cases h1 : x < 1
      · have h1' : (x : Int) < 1 := by omega
        go_wp2
        go_ret
        exact ⟨by rw [FF.out (by omega)]; first | done | rfl, n, rfl⟩
      have h1' : ¬ (x : Int) < 1 := by omega
      by_cases h3 : 300 < x
      · have h3' : (300 : Int) < (x : Int) := by omega
        go_wp2
        go_ret
        exact ⟨by rw [FF.out (by omega)]; first | done | rfl, n, rfl⟩
      have h3' : ¬ (300 : Int) < (x : Int) := by omega
      go_wp2
      go_roundw
      case rel => exact ⟨k + 1, n, by omega, by go_num, rfl, fun i hi hik => by
          by_cases hie : i = k
          · subst hie; rw [HX.out]; omega
          · exact HP.out i hi (by omega)⟩
      case measure => simp [intOf]; omega
    · obtain rfl : k = rows.length := by omega
      have FE := Lib.hid (few_end (rows := rows) (fun i hi => HP.out i hi hi))
      go_wp2
      go_ret
      exact ⟨by rw [FE.out]; first | done | rfl, n, rfl⟩
theorem app_next (ls : List (List UInt8)) (hg : ∀ b ∈ ls, Jou.Good b) (hl : ls.length ≤ 500) (k : Nat) (hk : k < ls.length) : appendR (frs (ls.take k)) ls[k] = (frs (ls.take (k + 1)), 0) := by
  have h1 : recs (frs (ls.take k)) = ls.take k := recs_frs _ (fun b hb => hg b (List.mem_of_mem_take hb)) (by rw [List.length_take]; omega)
  rw [append_ok _ _ (hg _ (List.getElem_mem _)) (by rw [h1, List.length_take]; omega), h1, List.take_succ_eq_append_getElem hk]
theorem frs_size (ls : List (List UInt8)) (h : ∀ b ∈ ls, b.length ≤ 300) : (frs ls).length ≤ 308 * ls.length := by
  induction ls with
  | nil => simp [frs]
  | cons b ls ih =>
    have h1 := ih (fun x hx => h x (List.mem_cons_of_mem _ hx))
    have h2 := h b List.mem_cons_self
    have e : frs (b :: ls) = frame b ++ frs ls := by simp [frs]
    rw [e, List.length_append, frame_len, List.length_cons]
    omega
/-- Records with one to 300 bytes. -/
def Fit (w : World) (A : Option Addr) (c : Nat) (rows : List Sl) : Prop := Rows0 w A c rows ∧ (∀ r ∈ rows, 1 ≤ r.2.2.length ∧ r.2.2.length ≤ 300) ∧ rows.length ≤ 24
theorem Fit.below {w w' : World} {A : Option Addr} {c : Nat} {l : List Sl} (h : Fit w A c l) (hb : Below w.heap.size w w') : Fit w' A c l := ⟨h.1.below hb, h.2⟩
theorem Fit.good {w : World} {A : Option Addr} {c : Nat} {rows : List Sl} (h : Fit w A c rows) : (∀ b ∈ rows.map (·.2.2), Jou.Good b) ∧ (∀ b ∈ rows.map (·.2.2), b.length ≤ 300) := by
  refine ⟨fun b hb => ?_, fun b hb => ?_⟩ <;> obtain ⟨r, hr, rfl⟩ := List.mem_map.1 hb
  · exact ⟨(h.2.1 r hr).1, by have := (h.2.1 r hr).2; omega⟩
  · exact (h.2.1 r hr).2
theorem Fit.rdl {w : World} {A : Option Addr} {c : Nat} {rows : List Sl} (h : Fit w A c rows) : RdL w A (rows.map (·.2.2)) :=
  ⟨rows, rfl, h.1.1, fun r hr => ⟨(h.1.2.2.2.2 r hr).1, (h.1.2.2.2.2 r hr).2.2.2 (h.2.1 r hr).1, (h.1.2.2.2.2 r hr).2.1, (h.1.2.2.2.2 r hr).2.2.1⟩⟩
set_option maxHeartbeats 2000000 in
set_option maxRecDepth 100000 in
theorem written_any (rows : List Sl) (A : Option Addr) (c : Nat) (w : World) (hA : Fit w A c rows) :
    Calls Try.prog 24 #[.slice A rows.length c] w fun e w' => ∃ A' c', e = .returned (.tuple #[.slice A' (frs (rows.map (·.2.2))).length c', .bool true]) ∧ Bs w' A' c' (frs (rows.map (·.2.2))) ∧ Below w.heap.size w w' := by
  have HA := Lib.hid hA; clear hA
  have hl : rows.length ≤ 24 := HA.out.2.2
  obtain ⟨ls, hls⟩ : ∃ ls, rows.map (·.2.2) = ls := ⟨_, rfl⟩
  have hll : Hid (ls.length = rows.length) := by show _ = _; rw [← hls, List.length_map]
  have HG : Hid ((∀ b ∈ ls, Jou.Good b) ∧ (∀ b ∈ ls, b.length ≤ 300)) := by rw [← hls]; exact HA.out.good
  have HR : Hid (RdL w A ls) := by rw [← hls]; exact HA.out.rdl
  have hT : Hid (ls.take rows.length = ls) := by show _ = _; rw [← hll.out, List.take_length]
  rw [hls]
  clear hls
  go_enter Try.func24, Try.ntmps24
  go_wp2
  go_loopw [4, 5] (fun j i wr => ∃ (k : Nat) (Aj : Option Addr) (cj : Nat), k ≤ rows.length ∧ i = iV k ∧ j = .slice Aj (frs (ls.take k)).length cj ∧ Hid (Bs wr Aj cj (frs (ls.take k))) ∧ Hid (Below w.heap.size w wr)) (fun _ i _ => rows.length - (intOf i).toNat)
  case atStart => exact ⟨0, some ⟨w.heap.size, 0, none⟩, 0, Nat.zero_le _, rfl, rfl, (Bs.new (l := []) (heap_alloc_new w (.cells #[] 5)) (by decide) : Bs _ _ _ _), ba w _⟩
  case round =>
    obtain ⟨k, Aj, cj, hk, rfl, rfl, HJ, HB⟩ := hrel
    by_cases hlt : k < rows.length
    · have hlt2 : k < ls.length := by rw [hll.out]; exact hlt
      obtain ⟨b1, o1, A1, c1, rfl, hb1, hc1, hr1, hl1, hle1, hm1⟩ := HR.out.get hlt2
      have k1 : wr.cell? ⟨b1, o1 + k, none⟩ = some (.slice A1 ls[k].length c1) := by
        rw [HB.out.cell (p := ⟨b1, o1 + k, none⟩) hb1]; exact hc1
      have i1 : (0 : Int) ≤ (k : Int) := by omega
      have i2 : (k : Int) < (rows.length : Int) := by omega
      have hz : Hid ((frs (ls.take k)).length ≤ 90000) := by
        have h5 := frs_size (ls.take k) (fun b hb => HG.out.2 b (List.mem_of_mem_take hb))
        rw [List.length_take] at h5
        show _ ≤ _
        have := hll.out
        omega
      have CA := append_any (frs (ls.take k)) ls[k] Aj A1 cj c1 wr HJ.out.1 HJ.out.2.1 (hr1.below HB.out) (hl1.mono HB.out.size) HJ.out.2.2.1 HJ.out.2.2.2 hz.out (by have := hle1; omega)
      rw [app_next ls HG.out.1 (by rw [hll.out]; omega) k hlt2] at CA
      have CA := Lib.hid CA
      clear hc1 hr1 hl1 hle1 hm1
      go_wp2_with fail
      refine CA.out.mono ?_
      rintro e w3 ⟨Ax, cx, rfl, hown3, hb3⟩
      have HX := Lib.hid (Bs.of_own hown3)
      have HB3 := Lib.hid (HB.out.trans (hb3.mono HB.out.size))
      clear hown3 hb3 CA
      go_wp2
      go_roundw
      case rel => exact ⟨k + 1, Ax, cx, by omega, by go_num, rfl, HX, HB3⟩
      case measure => simp [intOf]; omega
    · obtain rfl : k = rows.length := by omega
      rw [hT.out] at HJ ⊢
      go_wp2
      exact bodyPost_ret (v := .tuple #[.slice Aj (frs ls).length cj, .bool true]) (by simp [results, Try.results24, go_sem]) rfl ⟨Aj, cj, rfl, HJ.out, HB.out⟩
end Go.Proofs.Ytoaembpakmpolaa
