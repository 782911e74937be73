/-
  The reference: what is beyond doubt; comparisons of sights.
-/
import Derived.Test.YtpmogdddngbneaaCapRef2
import Derived.Deep.DrawnRows
namespace Go.Proofs.Ytpmogdddngbneaa
open Go.RowKit Go.Sort

abbrev evV (x : EvC) : Value := .agg #[iV x.ev.s.o, iV x.ev.s.lo, iV x.ev.s.hi, .slice x.A x.ev.needs.length x.c]
theorem ev_one {w : World} {x : EvC} (t : TypeId) (hok : x.ev.s.ok) (hN : Nums w x.A x.ev.needs) : Events (w.alloc (.cells (encE x).toArray t)) (some ⟨w.heap.size, 0, none⟩) [x] := by
  refine ⟨?_, fun y hy => ?_, by simp⟩
  · simpa using Rd.new w (encE x) t
  · rw [List.mem_singleton.1 hy]
    exact ⟨hok, hN.below (ba w _)⟩
theorem stay_one (ns : List Int) (x : EvC) : stay ns [x] = if restB x.ev.needs ns = true then 1 else 0 := by
  unfold stay
  by_cases h : restB x.ev.needs ns = true <;> simp [h]
theorem rest_comm (a b : List Int) : restB a b = b.all fun n => !decide (n ∈ a) := by
  unfold restB
  rw [Bool.eq_iff_iff, List.all_eq_true, List.all_eq_true]
  constructor
  · intro h n hn
    simp only [Bool.not_eq_true', decide_eq_false_iff_not]
    intro hna
    have := h n hna
    simp [hn] at this
  · intro h n hn
    simp only [Bool.not_eq_true', decide_eq_false_iff_not]
    intro hna
    have := h n hna
    simp [hn] at this
theorem sure_rest (ws : List NsC) (e : Ev) : sureB (nsOf ws) e = ws.all fun r => restB e.needs r.ns := by
  unfold sureB
  rw [List.all_map]
  congr 1
  funext r
  rw [rest_comm]; rfl
/-- The event is beyond doubt. -/
def surely (ws : List NsC) (e : Ev) : Bool := sureB (nsOf ws) e && decide (0 < ws.length)
theorem sure_at {ws : List NsC} {e : Ev} {j : Nat} (hj : j < ws.length) (h : restB e.needs ws[j].ns = false) : surely ws e = false := by
  unfold surely
  rw [sure_rest, Bool.and_eq_false_iff]
  left
  rw [List.all_eq_false]
  exact ⟨ws[j], List.getElem_mem hj, by simp [h]⟩
theorem sure_end {ws : List NsC} {e : Ev} (h : ∀ r ∈ ws, restB e.needs r.ns = true) : surely ws e = decide (0 < ws.length) := by
  unfold surely
  rw [sure_rest, List.all_eq_true.2 h]; rfl
theorem bdr1 {a b : World} (h : Below a.drew.heap.size a.drew b) : Below a.heap.size a b := ⟨h.os, h.tape, h.output, h.size, h.block⟩
set_option maxHeartbeats 4000000 in
set_option maxRecDepth 100000 in
theorem sure_any (x : EvC) (ws : List NsC) (AW : Option Addr) (cW : Nat) (w : World) (hok : x.ev.s.ok) (hN : Nums w x.A x.ev.needs) (hW : Worlds w AW ws) :
    Calls Try.prog 24 #[evV x, .slice AW ws.length cW] w fun e w' => e = .returned (.bool (surely ws x.ev)) ∧ Below w.heap.size w w' := by
  have hlw : ws.length ≤ 1000000 := hW.2.2
  have Hok := Lib.hid hok; clear hok
  have HN := Lib.hid hN; clear hN
  have HW := Lib.hid hW; clear hW
  go_enter Try.func24, Try.ntmps24
  go_wp2
  go_loopw [5] (fun i wr => ∃ (k : Nat), k ≤ ws.length ∧ i = iV k ∧ Hid (∀ r ∈ ws.take k, restB x.ev.needs r.ns = true) ∧ Hid (Below (w.heap.size + 1) (w.alloc (.cells (encE x).toArray 42)) wr) ∧ w.heap.size < wr.heap.size) (fun i _ => ws.length - (intOf i).toNat)
  case atStart => exact ⟨0, Nat.zero_le _, rfl, fun r hr => (by simp at hr), Below.refl _ _, by simp⟩
  case round =>
    obtain ⟨k, hk, rfl, HP, HB, hzr⟩ := hrel
    have HBw : Hid (Below w.heap.size w wr) := (ba w _).trans (HB.out.mono (by omega))
    by_cases hlt : k < ws.length
    · obtain ⟨b5, o5, rfl, hb5, hc5⟩ := (HW.out.1.below HBw.out).get (i := k) (by simpa using hlt)
      have k5 : wr.cell? ⟨b5, o5 + k, none⟩ = some (slI ws[k]) := hc5 k _ (by simp [hlt])
      have kk : ∀ j u, (encE x)[j]? = some u → wr.cell? ⟨w.heap.size, 0 + j, none⟩ = some u := fun j u h => by
        have := news_at w (encE x) 42 w.heap.size rfl j u h
        rw [add_at] at this
        exact (HB.out.cell (p := ⟨w.heap.size, 0 + j, none⟩) (Nat.lt_succ_self _)).trans this
      have k0 : wr.cell? ⟨w.heap.size, 0, none⟩ = some (iV x.ev.s.o) := kk 0 _ rfl
      have k1 : wr.cell? ⟨w.heap.size, 1, none⟩ = some (iV x.ev.s.lo) := kk 1 _ rfl
      have k2 : wr.cell? ⟨w.heap.size, 2, none⟩ = some (iV x.ev.s.hi) := kk 2 _ rfl
      have k3 : wr.cell? ⟨w.heap.size, 3, none⟩ = some (.slice x.A x.ev.needs.length x.c) := kk 3 _ rfl
      clear kk hc5
      have HNj := Lib.hid (HW.out.2.1 _ (List.getElem_mem hlt))
      have HT : Hid (ws.take (k + 1) = ws.take k ++ [ws[k]]) := List.take_succ_eq_append_getElem hlt
      have HSA := Lib.hid (fun h => sure_at (e := x.ev) hlt h)
      generalize ws[k] = wk at *
      obtain ⟨nk, Ak, ck⟩ := wk
      simp only at HNj HSA
      change wr.cell? ⟨b5, o5 + k, none⟩ = some (.slice Ak nk.length ck) at k5
      have i1 : (0 : Int) ≤ (k : Int) := by omega
      have i2 : (k : Int) < (ws.length : Int) := by omega
      have CR : Hid (Calls Try.prog 27 #[.slice (some ⟨wr.heap.size, 0, none⟩) 1 1, .slice Ak nk.length ck] (wr.alloc (.cells #[iV x.ev.s.o, iV x.ev.s.lo, iV x.ev.s.hi, .slice x.A x.ev.needs.length x.c] 42)).drew fun e w' => ∃ A' c', e = .returned (.slice A' (stay nk [x]) c') ∧ Below wr.heap.size wr w') := by
        have h1 := ev_one (w := wr) 42 Hok.out (HN.out.below HBw.out)
        have h2 := (HNj.out.below HBw.out).below (ba wr (.cells (encE x).toArray 42))
        have := rest_any [x] nk (some ⟨wr.heap.size, 0, none⟩) Ak 1 ck (wr.alloc (.cells (encE x).toArray 42)).drew h1 h2
        exact this.mono fun e w' ⟨A', c', he, hb⟩ => ⟨A', c', he, (ba wr _).trans ((bdr1 hb).mono (by simp))⟩
      rw [show stay nk [x] = if restB x.ev.needs nk = true then 1 else 0 from stay_one nk x] at CR
      have HSw : Hid (∀ w' : World, Below wr.heap.size wr w' → w'.cell? ⟨b5, o5 + k, none⟩ = some (.slice Ak nk.length ck) ∧ w'.cell? ⟨w.heap.size, 0, none⟩ = some (iV x.ev.s.o) ∧ w'.cell? ⟨w.heap.size, 1, none⟩ = some (iV x.ev.s.lo) ∧ w'.cell? ⟨w.heap.size, 2, none⟩ = some (iV x.ev.s.hi) ∧ w'.cell? ⟨w.heap.size, 3, none⟩ = some (.slice x.A x.ev.needs.length x.c)) :=
        fun w' hb => ⟨(hb.cell (p := ⟨b5, o5 + k, none⟩) hb5).trans k5, (hb.cell (p := ⟨w.heap.size, 0, none⟩) hzr).trans k0, (hb.cell (p := ⟨w.heap.size, 1, none⟩) hzr).trans k1, (hb.cell (p := ⟨w.heap.size, 2, none⟩) hzr).trans k2, (hb.cell (p := ⟨w.heap.size, 3, none⟩) hzr).trans k3⟩
      cases hr : restB x.ev.needs nk
      · rw [hr] at CR
        have HF := Lib.hid (HSA.out hr); clear hr
        go_wp2
        go_region_held3 (fun w' => w'.cell? ⟨b5, o5 + k, none⟩ = some (.slice Ak nk.length ck) ∧ w'.cell? ⟨w.heap.size, 0, none⟩ = some (iV x.ev.s.o) ∧ w'.cell? ⟨w.heap.size, 1, none⟩ = some (iV x.ev.s.lo) ∧ w'.cell? ⟨w.heap.size, 2, none⟩ = some (iV x.ev.s.hi) ∧ w'.cell? ⟨w.heap.size, 3, none⟩ = some (.slice x.A x.ev.needs.length x.c)) (first | exact HSw.out _ HB3.out | go_keep)
          ((go_at_call 27; refine CR.out.mono ?_; rintro e w3 ⟨A', c', rfl, hb3⟩; have HB3 := Lib.hid hb3; clear hb3))
        go_wp2
        go_ret
        exact ⟨by rw [HF.out]; rfl, HBw.out.trans (HB3.out.mono HBw.out.size)⟩
      · rw [hr] at CR
        have HRR := Lib.hid hr; clear hr
        go_wp2
        go_region_held3 (fun w' => w'.cell? ⟨b5, o5 + k, none⟩ = some (.slice Ak nk.length ck) ∧ w'.cell? ⟨w.heap.size, 0, none⟩ = some (iV x.ev.s.o) ∧ w'.cell? ⟨w.heap.size, 1, none⟩ = some (iV x.ev.s.lo) ∧ w'.cell? ⟨w.heap.size, 2, none⟩ = some (iV x.ev.s.hi) ∧ w'.cell? ⟨w.heap.size, 3, none⟩ = some (.slice x.A x.ev.needs.length x.c)) (first | exact HSw.out _ HB3.out | go_keep)
          ((go_at_call 27; refine CR.out.mono ?_; rintro e w3 ⟨A', c', rfl, hb3⟩; have HB3 := Lib.hid hb3; clear hb3))
        go_wp2
        go_roundw
        case rel => exact ⟨k + 1, by omega, by go_num, fun r hr => (by
          rw [HT.out] at hr
          rcases List.mem_append.1 hr with hr | hr
          · exact HP.out r hr
          · rw [List.mem_singleton.1 hr]; exact HRR.out), HB.out.trans (HB3.out.mono (by omega)), by have := HB3.out.size; omega⟩
        case measure => simp [intOf]; omega
    · obtain rfl : k = ws.length := by omega
      rw [List.take_length] at HP
      have HF := Lib.hid (sure_end HP.out)
      go_wp2
      go_ret
      exact ⟨by rw [HF.out]; simp, HBw.out⟩
set_option maxHeartbeats 4000000 in
set_option maxRecDepth 100000 in
theorem remains_any (x : EvC) (ws : List NsC) (AW : Option Addr) (cW : Nat) (w : World) (hok : x.ev.s.ok) (hN : Nums w x.A x.ev.needs) (hW : Worlds w AW ws) :
    Calls Try.prog 18 #[evV x, .slice AW ws.length cW] w fun e w' => e = .returned (.bool (surely ws x.ev)) ∧ Below w.heap.size w w' := by
  have hlw : ws.length ≤ 1000000 := hW.2.2
  have Hok := Lib.hid hok; clear hok
  have HN := Lib.hid hN; clear hN
  have HW := Lib.hid hW; clear hW
  go_enter Try.func18, Try.ntmps18
  go_wp2
  go_loopw [5] (fun i wr => ∃ (k : Nat), k ≤ ws.length ∧ i = iV k ∧ Hid (∀ r ∈ ws.take k, restB x.ev.needs r.ns = true) ∧ Hid (Below (w.heap.size + 1) (w.alloc (.cells (encE x).toArray 42)) wr) ∧ w.heap.size < wr.heap.size) (fun i _ => ws.length - (intOf i).toNat)
  case atStart => exact ⟨0, Nat.zero_le _, rfl, fun r hr => (by simp at hr), Below.refl _ _, by simp⟩
  case round =>
    obtain ⟨k, hk, rfl, HP, HB, hzr⟩ := hrel
    have HBw : Hid (Below w.heap.size w wr) := (ba w _).trans (HB.out.mono (by omega))
    by_cases hlt : k < ws.length
    · obtain ⟨b5, o5, rfl, hb5, hc5⟩ := (HW.out.1.below HBw.out).get (i := k) (by simpa using hlt)
      have k5 : wr.cell? ⟨b5, o5 + k, none⟩ = some (slI ws[k]) := hc5 k _ (by simp [hlt])
      have kk : ∀ j u, (encE x)[j]? = some u → wr.cell? ⟨w.heap.size, 0 + j, none⟩ = some u := fun j u h => by
        have := news_at w (encE x) 42 w.heap.size rfl j u h
        rw [add_at] at this
        exact (HB.out.cell (p := ⟨w.heap.size, 0 + j, none⟩) (Nat.lt_succ_self _)).trans this
      have k0 : wr.cell? ⟨w.heap.size, 0, none⟩ = some (iV x.ev.s.o) := kk 0 _ rfl
      have k1 : wr.cell? ⟨w.heap.size, 1, none⟩ = some (iV x.ev.s.lo) := kk 1 _ rfl
      have k2 : wr.cell? ⟨w.heap.size, 2, none⟩ = some (iV x.ev.s.hi) := kk 2 _ rfl
      have k3 : wr.cell? ⟨w.heap.size, 3, none⟩ = some (.slice x.A x.ev.needs.length x.c) := kk 3 _ rfl
      clear kk hc5
      have HNj := Lib.hid (HW.out.2.1 _ (List.getElem_mem hlt))
      have HT : Hid (ws.take (k + 1) = ws.take k ++ [ws[k]]) := List.take_succ_eq_append_getElem hlt
      have HSA := Lib.hid (fun h => sure_at (e := x.ev) hlt h)
      generalize ws[k] = wk at *
      obtain ⟨nk, Ak, ck⟩ := wk
      simp only at HNj HSA
      change wr.cell? ⟨b5, o5 + k, none⟩ = some (.slice Ak nk.length ck) at k5
      have i1 : (0 : Int) ≤ (k : Int) := by omega
      have i2 : (k : Int) < (ws.length : Int) := by omega
      have CR : Hid (Calls Try.prog 27 #[.slice (some ⟨wr.heap.size, 0, none⟩) 1 1, .slice Ak nk.length ck] (wr.alloc (.cells #[iV x.ev.s.o, iV x.ev.s.lo, iV x.ev.s.hi, .slice x.A x.ev.needs.length x.c] 42)).drew fun e w' => ∃ A' c', e = .returned (.slice A' (stay nk [x]) c') ∧ Below wr.heap.size wr w') := by
        have h1 := ev_one (w := wr) 42 Hok.out (HN.out.below HBw.out)
        have h2 := (HNj.out.below HBw.out).below (ba wr (.cells (encE x).toArray 42))
        have := rest_any [x] nk (some ⟨wr.heap.size, 0, none⟩) Ak 1 ck (wr.alloc (.cells (encE x).toArray 42)).drew h1 h2
        exact this.mono fun e w' ⟨A', c', he, hb⟩ => ⟨A', c', he, (ba wr _).trans ((bdr1 hb).mono (by simp))⟩
      rw [show stay nk [x] = if restB x.ev.needs nk = true then 1 else 0 from stay_one nk x] at CR
      have HSw : Hid (∀ w' : World, Below wr.heap.size wr w' → w'.cell? ⟨b5, o5 + k, none⟩ = some (.slice Ak nk.length ck) ∧ w'.cell? ⟨w.heap.size, 0, none⟩ = some (iV x.ev.s.o) ∧ w'.cell? ⟨w.heap.size, 1, none⟩ = some (iV x.ev.s.lo) ∧ w'.cell? ⟨w.heap.size, 2, none⟩ = some (iV x.ev.s.hi) ∧ w'.cell? ⟨w.heap.size, 3, none⟩ = some (.slice x.A x.ev.needs.length x.c)) :=
        fun w' hb => ⟨(hb.cell (p := ⟨b5, o5 + k, none⟩) hb5).trans k5, (hb.cell (p := ⟨w.heap.size, 0, none⟩) hzr).trans k0, (hb.cell (p := ⟨w.heap.size, 1, none⟩) hzr).trans k1, (hb.cell (p := ⟨w.heap.size, 2, none⟩) hzr).trans k2, (hb.cell (p := ⟨w.heap.size, 3, none⟩) hzr).trans k3⟩
      cases hr : restB x.ev.needs nk
      · rw [hr] at CR
        have HF := Lib.hid (HSA.out hr); clear hr
        go_wp2
        go_region_held3 (fun w' => w'.cell? ⟨b5, o5 + k, none⟩ = some (.slice Ak nk.length ck) ∧ w'.cell? ⟨w.heap.size, 0, none⟩ = some (iV x.ev.s.o) ∧ w'.cell? ⟨w.heap.size, 1, none⟩ = some (iV x.ev.s.lo) ∧ w'.cell? ⟨w.heap.size, 2, none⟩ = some (iV x.ev.s.hi) ∧ w'.cell? ⟨w.heap.size, 3, none⟩ = some (.slice x.A x.ev.needs.length x.c)) (first | exact HSw.out _ HB3.out | go_keep)
          ((go_at_call 27; refine CR.out.mono ?_; rintro e w3 ⟨A', c', rfl, hb3⟩; have HB3 := Lib.hid hb3; clear hb3))
        go_wp2
        go_ret
        exact ⟨by rw [HF.out]; rfl, HBw.out.trans (HB3.out.mono HBw.out.size)⟩
      · rw [hr] at CR
        have HRR := Lib.hid hr; clear hr
        go_wp2
        go_region_held3 (fun w' => w'.cell? ⟨b5, o5 + k, none⟩ = some (.slice Ak nk.length ck) ∧ w'.cell? ⟨w.heap.size, 0, none⟩ = some (iV x.ev.s.o) ∧ w'.cell? ⟨w.heap.size, 1, none⟩ = some (iV x.ev.s.lo) ∧ w'.cell? ⟨w.heap.size, 2, none⟩ = some (iV x.ev.s.hi) ∧ w'.cell? ⟨w.heap.size, 3, none⟩ = some (.slice x.A x.ev.needs.length x.c)) (first | exact HSw.out _ HB3.out | go_keep)
          ((go_at_call 27; refine CR.out.mono ?_; rintro e w3 ⟨A', c', rfl, hb3⟩; have HB3 := Lib.hid hb3; clear hb3))
        go_wp2
        go_roundw
        case rel => exact ⟨k + 1, by omega, by go_num, fun r hr => (by
          rw [HT.out] at hr
          rcases List.mem_append.1 hr with hr | hr
          · exact HP.out r hr
          · rw [List.mem_singleton.1 hr]; exact HRR.out), HB.out.trans (HB3.out.mono (by omega)), by have := HB3.out.size; omega⟩
        case measure => simp [intOf]; omega
    · obtain rfl : k = ws.length := by omega
      rw [List.take_length] at HP
      have HF := Lib.hid (sure_end HP.out)
      go_wp2
      go_ret
      exact ⟨by rw [HF.out]; simp, HBw.out⟩
end Go.Proofs.Ytpmogdddngbneaa
