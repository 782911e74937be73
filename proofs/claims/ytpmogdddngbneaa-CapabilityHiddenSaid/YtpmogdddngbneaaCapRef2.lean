/-
  The reference: what stays of events, what is beyond doubt, comparisons.
-/
import Derived.Test.YtpmogdddngbneaaCapRef1
namespace Go.Proofs.Ytpmogdddngbneaa
open Go.RowKit Go.Sort

def restB (needs ns : List Int) : Bool := needs.all fun n => !decide (n ∈ ns)
theorem rest_take (needs ns : List Int) (j : Nat) (h : j < needs.length) : restB (needs.take (j + 1)) ns = (restB (needs.take j) ns && !decide (needs[j] ∈ ns)) := by
  unfold restB
  rw [List.take_succ_eq_append_getElem h, List.all_append]; simp
def stay (ns : List Int) (es : List EvC) : Nat := (es.filter fun x => restB x.ev.needs ns).length
theorem stay_take (ns : List Int) (es : List EvC) (k : Nat) (h : k < es.length) : stay ns (es.take (k + 1)) = stay ns (es.take k) + if restB es[k].ev.needs ns = true then 1 else 0 := by
  unfold stay
  rw [List.take_succ_eq_append_getElem h, List.filter_append, List.length_append]
  by_cases hr : restB es[k].ev.needs ns = true <;> simp [hr]
theorem stay_le (ns : List Int) (es : List EvC) : stay ns es ≤ es.length := List.length_filter_le _ _
theorem evInf : (Try.prog.info? 42).map (fun i => (i.zero, i.size, i.bytes)) = some (some (.agg #[iV 0, iV 0, iV 0, .slice none 0 0]), 4, 48) := by kernel_rfl
theorem one_e (x : EvC) : ∀ v ∈ encE x, v.oneCell' = true := by
  intro v hv
  simp [encE] at hv
  rcases hv with rfl | rfl | rfl | rfl <;> rfl
set_option maxHeartbeats 4000000 in
set_option maxRecDepth 100000 in
theorem rest_any (es : List EvC) (ns : List Int) (AE A : Option Addr) (cE c : Nat) (w : World) (hE : Events w AE es) (hN : Nums w A ns) :
    Calls Try.prog 27 #[.slice AE es.length cE, .slice A ns.length c] w fun e w' => ∃ A' c', e = .returned (.slice A' (stay ns es) c') ∧ Below w.heap.size w w' := by
  obtain ⟨i0, hi0, hz0, hz1, hz2⟩ := info_parts evInf
  have hle : es.length ≤ 1000000 := hE.2.2
  have HE := Lib.hid hE; clear hE
  have HN := Lib.hid hN; clear hN
  go_enter Try.func27, Try.ntmps27
  go_wp2
  go_loopw [5, 6] (fun v i wr => ∃ (k : Nat) (xs : List Value), k ≤ es.length ∧ i = iV k ∧ Hid (wr.ownsRow w.heap.size 42 4 v (stay ns (es.take k)) xs) ∧ Hid (Below w.heap.size w wr)) (fun _ i _ => es.length - (intOf i).toNat)
  case atStart =>
    refine ⟨0, [], Nat.zero_le _, rfl, ?_, ba w _⟩
    exact ⟨rfl, .inr ⟨w.heap.size, 0, _, rfl, Nat.le_refl _, heap_alloc_new w _, Nat.le_refl _, by decide, rfl, rfl⟩⟩
  case round =>
    obtain ⟨k, xs, hk, rfl, HO, HB⟩ := hrel
    obtain ⟨wo, rfl⟩ : ∃ wo : World, wo = wr := ⟨_, rfl⟩
    obtain ⟨A3, c3, rfl⟩ := own_form HO.out
    by_cases hlt : k < es.length
    · obtain ⟨b, off, rfl, hb, k0, k1, k2, k3⟩ := (HE.out.below HB.out).get hlt
      have hnum := (HE.out.2.1 es[k] (List.getElem_mem hlt)).2
      have HS : Hid (stay ns (es.take (k + 1)) = stay ns (es.take k) + if restB es[k].ev.needs ns = true then 1 else 0) := stay_take _ _ _ hlt
      have hsl : stay ns (es.take k) ≤ k := by have := stay_le ns (es.take k); rw [List.length_take] at this; omega
      generalize stay ns (es.take k) = st at *
      generalize es[k] = ek at *
      obtain ⟨⟨s, nd⟩, An, cn⟩ := ek
      simp only at k0 k1 k2 k3 hnum HS
      have HNd := Lib.hid hnum
      have hln : nd.length ≤ 1000000 := hnum.2.2
      clear hnum
      have i1 : (0 : Int) ≤ (k : Int) := by omega
      have i2 : (k : Int) < (es.length : Int) := by omega
      go_wp2
      go_loopw [7, 8] (fun t i wz => wo = wz ∧ ∃ j : Nat, j ≤ nd.length ∧ i = iV j ∧ t = .bool (restB (nd.take j) ns)) (fun _ i _ => nd.length - (intOf i).toNat)
      case atStart => exact ⟨rfl, 0, Nat.zero_le _, rfl, rfl⟩
      case round =>
        obtain ⟨rfl, j, hj, rfl, rfl⟩ := hrel
        by_cases hlj : j < nd.length
        · obtain ⟨b3, o3, rfl, hb3, hc3⟩ := (HNd.out.1.below HB.out).get (i := j) (by simpa using hlj)
          have k4 : wo.cell? ⟨b3, o3 + j, none⟩ = some (iV nd[j]) := hc3 j _ (by simp [hlj])
          clear hc3
          have i3 : (0 : Int) ≤ (j : Int) := by omega
          have i4 : (j : Int) < (nd.length : Int) := by omega
          have HT := Lib.hid (rest_take nd ns j hlj)
          generalize nd[j] = nj at *
          have CI := Lib.hid (in_any ns nj A c wo (HN.out.1.below HB.out) HN.out.2.2)
          cases hr : restB (nd.take j) ns
          · rw [hr] at HT
            have HT' : Hid (restB (nd.take (j + 1)) ns = false) := by show _ = _; rw [HT.out]; rfl
            clear HT CI
            have HRR := Lib.hid hr; clear hr
            go_wp2
            go_roundw
            case rel => exact ⟨trivial, j + 1, by omega, by go_num, by rw [HT'.out]⟩
            case measure => simp [intOf]; omega
          · rw [hr] at HT
            have HRR := Lib.hid hr; clear hr
            go_wp2_with (go_at_call 35; refine CI.out.mono ?_; rintro e w3 ⟨rfl, rfl⟩)
            go_roundw
            case rel => exact ⟨trivial, j + 1, by omega, by go_num, by rw [HT.out]; simp⟩
            case measure => simp [intOf]; omega
        · obtain rfl : j = nd.length := by omega
          rw [List.take_length]
          cases hr : restB nd ns
          · rw [hr] at HS
            have HS' : Hid (stay ns (es.take (k + 1)) = st) := HS.out
            clear HS
            have HRR := Lib.hid hr; clear hr
            go_wp2
            go_roundw
            case rel => exact ⟨k + 1, xs, by omega, by go_num, by show World.ownsRow _ _ _ _ _ _ _; rw [HS'.out]; exact HO.out, HB⟩
            case measure => simp [intOf]; omega
          · rw [hr] at HS
            have HS' : Hid (stay ns (es.take (k + 1)) = st + 1) := HS.out
            clear HS
            have HRR := Lib.hid hr; clear hr
            go_wp2_with (at_builtin; go_must (refine wpList_app (by rfl) _ _ _ _ (by rfl) w.heap.size 42 i0 _ 4 48 Try.underlying22 hi0 hz0 hz1 hz2 (by rfl) _ st xs (by rfl) (HO.out.alloc _) _ (by rfl) 1 (encE ⟨⟨s, nd⟩, An, cn⟩) (Src.ofSlice _ Try.underlying22 ⟨wo.heap.size, 0, none⟩ 1 1 _ (by rfl) (news_at _ (encE ⟨⟨s, nd⟩, An, cn⟩) _ _ (by rfl)) (one_e _)) (by unfold maxLen; omega) (by omega) (by have := HB.out.size; simp; omega) ?_); intro A4 c4 w4 hown4 hgrow4 _; have HO4 := Lib.hid hown4; clear hown4; have HG4 := Lib.hid hgrow4; clear hgrow4)
            go_roundw
            case rel => exact ⟨k + 1, _, by omega, by go_num, by show World.ownsRow _ _ _ _ _ _ _; rw [HS'.out]; exact HO4.out, app_below (HB.out.trans (ba wo _ |>.mono HB.out.size)) (Nat.le_refl _) (HO.out.alloc _) (Nat.le_refl _) HG4.out⟩
            case measure => simp [intOf]; omega
    · obtain rfl : k = es.length := by omega
      rw [List.take_length] at HO ⊢
      go_wp2
      go_ret
      exact ⟨A3, c3, rfl, HB.out⟩
end Go.Proofs.Ytpmogdddngbneaa
