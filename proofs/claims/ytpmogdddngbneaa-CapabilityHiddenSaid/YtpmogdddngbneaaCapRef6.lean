/-
  The reference: what is seen.
-/
import Derived.Test.YtpmogdddngbneaaCapRef5
namespace Go.Proofs.Ytpmogdddngbneaa
open Go.RowKit Go.Sort

/-- The sights that are there after some events. -/
structure OutS (wr : World) (v : Value) (k : Nat) (ws : List NsC) (es : List EvC) (b off c : Nat) (m : List Sight) : Prop where
  val : v = .slice (some ⟨b, off, none⟩) m.length c
  rd : Rd wr (some ⟨b, off, none⟩) (m.flatMap encS)
  lt : b < wr.heap.size
  cap : m.length ≤ c
  max : c ≤ maxLen
  len : m.length ≤ k
  ord : Strict m
  mem : ∀ x, x ∈ m ↔ ∃ e ∈ evsOf (es.take k), e.s = x ∧ surely ws e = true
theorem OutS.below {w w' : World} {v : Value} {k : Nat} {ws : List NsC} {es : List EvC} {b off c : Nat} {m : List Sight} (h : OutS w v k ws es b off c m) (hb : Below w.heap.size w w') : OutS w' v k ws es b off c m :=
  ⟨h.val, h.rd.below hb, Nat.lt_of_lt_of_le h.lt hb.size, h.cap, h.max, h.len, h.ord, h.mem⟩
theorem mem_take {ws : List NsC} {es : List EvC} {k : Nat} (hk : k < es.length) (x : Sight) : (∃ e ∈ evsOf (es.take (k + 1)), e.s = x ∧ surely ws e = true) ↔ (∃ e ∈ evsOf (es.take k), e.s = x ∧ surely ws e = true) ∨ (es[k].ev.s = x ∧ surely ws es[k].ev = true) := by
  rw [List.take_succ_eq_append_getElem hk, evsOf, List.map_append]
  simp only [List.mem_append, List.map_cons, List.map_nil, List.mem_singleton]
  constructor
  · rintro ⟨e, h | rfl, h2⟩
    · exact .inl ⟨e, h, h2⟩
    · exact .inr h2
  · rintro (⟨e, h, h2⟩ | h)
    · exact ⟨e, .inl h, h2⟩
    · exact ⟨_, .inr rfl, h⟩
theorem seen_surely {ws : List NsC} {es : List EvC} {m : List Sight} (ho : Strict m) (hm : ∀ x, x ∈ m ↔ ∃ e ∈ evsOf es, e.s = x ∧ surely ws e = true) : Seen (evsOf es) (nsOf ws) m := by
  refine ⟨ho, fun s => (hm s).trans ⟨fun ⟨e, he, h1, h2⟩ => ?_, fun ⟨h0, e, he, h1, h2⟩ => ?_⟩⟩
  · unfold surely at h2
    rw [Bool.and_eq_true, decide_eq_true_eq] at h2
    refine ⟨fun h => ?_, e, he, h1, h2.1⟩
    have := congrArg List.length h
    simp at this
    simp [this] at h2
  · refine ⟨e, he, h1, ?_⟩
    unfold surely
    rw [h2, Bool.true_and, decide_eq_true_eq]
    cases ws with
    | nil => exact absurd rfl h0
    | cons _ _ => simp
set_option maxHeartbeats 1000000 in
set_option maxRecDepth 100000 in
theorem rsee_bad (s t : Int) (l : List UInt8) (AE AW : Option Addr) (cE cW nE nW : Nat) (w : World) (hs : I64 s) (hl : l.length ≤ 1000) (ht : t ≠ tok s l) :
    Calls Try.prog 12 #[iV s, iV t, sV l, .slice AE nE cE, .slice AW nW cW] w fun e w' => e = .returned (.tuple #[.slice none 0 0, .int .i64 340]) ∧ Below w.heap.size w w' := by
  have CT := Lib.hid (rtoken_any s l w hs hl)
  have h1 : (t != tok s l) = true := by simpa using ht
  generalize tok s l = tk at CT h1
  clear ht
  go_enter Try.func12, Try.ntmps12
  go_wp2_with (go_at_call 10; refine CT.out.mono ?_; rintro e w1 ⟨rfl, hb1⟩; have HB1 := Lib.hid hb1; clear hb1)
  go_ret2
  exact ⟨rfl, HB1.out⟩
set_option maxHeartbeats 4000000 in
set_option maxRecDepth 100000 in
theorem rsee_ok (s : Int) (l : List UInt8) (AE AW : Option Addr) (cE cW : Nat) (evs : List EvC) (ws : List NsC) (w : World) (hs : I64 s) (hl : l.length ≤ 1000) (hE : Events w AE evs) (hW : Worlds w AW ws) (hle : evs.length ≤ 1000) :
    Calls Try.prog 12 #[iV s, iV (tok s l), sV l, .slice AE evs.length cE, .slice AW ws.length cW] w fun e w' => ∃ A c o, e = .returned (.tuple #[.slice A (List.length o) c, .int .i64 0]) ∧ Rd w' A (o.flatMap encS) ∧ o.length ≤ 1000000 ∧ Seen (evsOf evs) (nsOf ws) o ∧ Below w.heap.size w w' := by
  have CT := Lib.hid (rtoken_any s l w hs hl)
  have HE := Lib.hid hE; clear hE
  have HW := Lib.hid hW; clear hW
  have h1 : (tok s l != tok s l) = false := by simp
  generalize tok s l = tk at CT h1 ⊢
  go_enter Try.func12, Try.ntmps12
  go_wp2_with (go_at_call 10; refine CT.out.mono ?_; rintro e w1 ⟨rfl, hb1⟩; have HB1 := Lib.hid hb1; clear hb1)
  go_loopw [12, 13] (fun v i wr => ∃ (k b off c : Nat) (m : List Sight), k ≤ evs.length ∧ i = iV k ∧ v = .slice (some ⟨b, off, none⟩) m.length c ∧ Hid (OutS wr v k ws evs b off c m) ∧ Hid (Below w.heap.size w wr)) (fun _ i _ => evs.length - (intOf i).toNat)
  case atStart =>
    refine ⟨0, w1.heap.size, 0, 0, [], Nat.zero_le _, rfl, rfl, ⟨rfl, Rd.nil _ _, by simp, Nat.le_refl _, Nat.zero_le _, Nat.le_refl _, List.Pairwise.nil, fun x => by simp⟩, ?_⟩
    exact bt HB1.out (ba w1 _)
  case round =>
    obtain ⟨k, b, off, c, m, hk, rfl, rfl, HO, HB⟩ := hrel
    by_cases hlt : k < evs.length
    · obtain ⟨bE, oE, rfl, hbE, k0, k1, k2, k3⟩ := (HE.out.below HB.out).get hlt
      have HMT := Lib.hid (fun x => mem_take (ws := ws) hlt x)
      have hok := (HE.out.2.1 evs[k] (List.getElem_mem hlt))
      have CS := Lib.hid (sure_any evs[k] ws AW cW wr hok.1 (hok.2.below HB.out) (HW.out.below HB.out))
      generalize evs[k] = ek at *
      obtain ⟨⟨sg, nd⟩, An, cn⟩ := ek
      simp only at k0 k1 k2 k3 HMT CS
      have i1 : (0 : Int) ≤ (k : Int) := by omega
      have i2 : (k : Int) < (evs.length : Int) := by omega
      clear hok
      cases hsu : surely ws ⟨sg, nd⟩
      · rw [hsu] at CS
        have HSU := Lib.hid hsu; clear hsu
        go_wp2_with (go_at_call 24; refine CS.out.mono ?_; rintro e w3 ⟨rfl, hb3⟩; have HB3 := Lib.hid hb3; clear hb3)
        go_roundw
        case rel => exact ⟨k + 1, b, off, c, m, by omega, by go_num, rfl, ⟨rfl, HO.out.rd.below HB3.out, Nat.lt_of_lt_of_le HO.out.lt HB3.out.size, HO.out.cap, HO.out.max, by have := HO.out.len; omega, HO.out.ord, fun x => by
          rw [HMT.out x, HSU.out]
          exact (HO.out.mem x).trans ⟨.inl, fun h => h.elim id fun h => by cases h.2⟩⟩, bt HB.out HB3.out⟩
        case measure => simp [intOf]; omega
      · rw [hsu] at CS
        have HSU := Lib.hid hsu; clear hsu
        go_wp2_with (go_at_call 24; refine CS.out.mono ?_; rintro e w3 ⟨rfl, hb3⟩; have HB3 := Lib.hid hb3; clear hb3)
        have k0' : w3.cell? ⟨bE, oE + k * 4, none⟩ = some (iV sg.o) := (HB3.out.cell (p := ⟨bE, oE + k * 4, none⟩) hbE).trans k0
        have k1' : w3.cell? ⟨bE, oE + k * 4 + 1, none⟩ = some (iV sg.lo) := (HB3.out.cell (p := ⟨bE, oE + k * 4 + 1, none⟩) hbE).trans k1
        have k2' : w3.cell? ⟨bE, oE + k * 4 + 2, none⟩ = some (iV sg.hi) := (HB3.out.cell (p := ⟨bE, oE + k * 4 + 2, none⟩) hbE).trans k2
        have HSw : Hid (∀ w' : World, Below w3.heap.size w3 w' → w'.cell? ⟨bE, oE + k * 4, none⟩ = some (iV sg.o) ∧ w'.cell? ⟨bE, oE + k * 4 + 1, none⟩ = some (iV sg.lo) ∧ w'.cell? ⟨bE, oE + k * 4 + 2, none⟩ = some (iV sg.hi)) := fun w' h =>
          have hz := Nat.lt_of_lt_of_le hbE HB3.out.size
          ⟨(h.cell (p := ⟨bE, oE + k * 4, none⟩) hz).trans k0', (h.cell (p := ⟨bE, oE + k * 4 + 1, none⟩) hz).trans k1', (h.cell (p := ⟨bE, oE + k * 4 + 2, none⟩) hz).trans k2'⟩
        clear k0 k1 k2 k3
        have HO3 := Lib.hid (HO.out.below HB3.out)
        have CI : Hid (Calls Try.prog 25 #[.slice (some ⟨b, off, none⟩) m.length c, gV sg] w3.drew fun e w' => ∃ b' off' c' o, e = .returned (.slice (some ⟨b', off', none⟩) (List.length o) c') ∧ Rd w' (some ⟨b', off', none⟩) (o.flatMap encS) ∧ b' < w'.heap.size ∧ o.length ≤ c' ∧ c' ≤ maxLen ∧ o.length ≤ m.length + 1 ∧ Strict o ∧ (∀ x, x ∈ o ↔ x ∈ m ∨ x = sg) ∧ Below w3.drew.heap.size w3.drew w') :=
          insert_any m sg b off c w3.drew HO3.out.rd HO3.out.lt HO3.out.cap HO3.out.max (by have := HO3.out.len; omega) HO3.out.ord
        go_region_held3 (fun w' => w'.cell? ⟨bE, oE + k * 4, none⟩ = some (iV sg.o) ∧ w'.cell? ⟨bE, oE + k * 4 + 1, none⟩ = some (iV sg.lo) ∧ w'.cell? ⟨bE, oE + k * 4 + 2, none⟩ = some (iV sg.hi)) (first | exact HSw.out _ HB4.out | go_keep)
          ((go_at_call 25; refine CI.out.mono ?_; rintro e w4 ⟨b', off', c', o, rfl, h1, h2, h3, h4, h5, h6, h7, h8⟩; have HB4 := Lib.hid (bdr1 h8); have HI := Lib.hid (And.intro h1 (And.intro h2 (And.intro h3 (And.intro h4 (And.intro h5 (And.intro h6 h7)))))); clear h1 h2 h3 h4 h5 h6 h7 h8))
        go_wp2
        go_roundw
        case rel =>
          obtain ⟨h1, h2, h3, h4, h5, h6, h7⟩ := HI.out
          exact ⟨k + 1, b', off', c', o, by omega, by go_num, rfl, ⟨rfl, h1, h2, h3, h4, by have := HO.out.len; omega, h6, fun x => by
            rw [HMT.out x, HSU.out, h7 x, HO.out.mem x]
            exact ⟨fun h => h.elim .inl fun h => .inr ⟨h.symm, rfl⟩, fun h => h.elim .inl fun h => .inr h.1.symm⟩⟩, bt HB.out (bt HB3.out HB4.out)⟩
        case measure => simp [intOf]; omega
    · obtain rfl : k = evs.length := by omega
      go_wp2
      go_ret2
      exact ⟨_, c, m, rfl, HO.out.rd, by have := HO.out.len; omega, seen_surely HO.out.ord (by have := HO.out.mem; rwa [List.take_length] at this), HB.out⟩
end Go.Proofs.Ytpmogdddngbneaa
