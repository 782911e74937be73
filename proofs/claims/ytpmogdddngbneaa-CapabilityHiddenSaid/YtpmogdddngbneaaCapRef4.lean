/-
  The reference: comparisons of sights, lists of sights.
-/
import Derived.Test.YtpmogdddngbneaaCapEq
namespace Go.Proofs.Ytpmogdddngbneaa
open Go.RowKit Go.Sort
attribute [local go_sem] sgG
theorem eq_no {x y : Sight} (h : x ≠ y) (w : World) : (Op.equalIn 10000 39 (.agg #[iV x.o, iV x.lo, iV x.hi]) (.agg #[iV y.o, iV y.lo, iV y.hi])).run Try.prog w = .ok false w := by
  have := eq_sight x y w
  rwa [decide_eq_false h] at this
theorem eq_yes (x : Sight) (w : World) : (Op.equalIn 10000 39 (.agg #[iV x.o, iV x.lo, iV x.hi]) (.agg #[iV x.o, iV x.lo, iV x.hi])).run Try.prog w = .ok true w := by
  have := eq_sight x x w
  rwa [decide_eq_true rfl] at this

set_option maxHeartbeats 2000000 in
theorem less_any (a b : Sight) (w : World) : Calls Try.prog 17 #[gV a, gV b] w fun e w' => e = .returned (.bool (lessS a b)) ∧ Gr w w' := by
  obtain ⟨ao, al, ah⟩ := a
  obtain ⟨bo, bl, bh⟩ := b
  unfold lessS
  simp only
  by_cases h1 : ao = bo
  · subst h1
    rw [if_pos rfl]
    by_cases h2 : al = bl
    · subst h2
      rw [if_pos rfl]
      go_enter Try.func17, Try.ntmps17
      go_wp2
      go_ret
      exact ⟨rfl, (Gr.alloc _ _).trans (Gr.alloc _ _)⟩
    · have h2' : (al != bl) = true := by simpa using h2
      rw [if_neg h2]
      clear h2
      go_enter Try.func17, Try.ntmps17
      go_wp2
      go_ret
      exact ⟨rfl, (Gr.alloc _ _).trans (Gr.alloc _ _)⟩
  · have h1' : (ao != bo) = true := by simpa using h1
    rw [if_neg h1]
    clear h1
    go_enter Try.func17, Try.ntmps17
    go_wp2
    go_ret
    exact ⟨rfl, (Gr.alloc _ _).trans (Gr.alloc _ _)⟩
def fewB (es : List EvC) (ws : List NsC) : Bool := es.all (fun x => decide (x.ev.needs.length ≤ 8)) && ws.all (fun x => decide (x.ns.length ≤ 8)) && decide ((es.length : Int) ≤ 16) && decide ((ws.length : Int) ≤ 20)
theorem few_no1 {es : List EvC} {ws : List NsC} {k : Nat} (hk : k < es.length) (h : ¬ es[k].ev.needs.length ≤ 8) : fewB es ws = false := by
  unfold fewB
  have : es.all (fun x => decide (x.ev.needs.length ≤ 8)) = false := by
    rw [List.all_eq_false]; exact ⟨es[k], List.getElem_mem hk, by simpa using h⟩
  rw [this]; rfl
theorem few_no2 {es : List EvC} {ws : List NsC} {k : Nat} (hk : k < ws.length) (h : ¬ ws[k].ns.length ≤ 8) : fewB es ws = false := by
  unfold fewB
  have : ws.all (fun x => decide (x.ns.length ≤ 8)) = false := by
    rw [List.all_eq_false]; exact ⟨ws[k], List.getElem_mem hk, by simpa using h⟩
  rw [this]; simp
theorem few_end {es : List EvC} {ws : List NsC} (h1 : ∀ x ∈ es, x.ev.needs.length ≤ 8) (h2 : ∀ x ∈ ws, x.ns.length ≤ 8) : fewB es ws = (decide ((es.length : Int) ≤ 16) && decide ((ws.length : Int) ≤ 20)) := by
  unfold fewB
  rw [List.all_eq_true.2 (fun x hx => decide_eq_true (h1 x hx)), List.all_eq_true.2 (fun x hx => decide_eq_true (h2 x hx))]; rfl
theorem few_all {es : List EvC} {ws : List NsC} (h : fewB es ws = true) : (∀ x ∈ es, x.ev.needs.length ≤ 8) ∧ (∀ x ∈ ws, x.ns.length ≤ 8) ∧ es.length ≤ 16 ∧ ws.length ≤ 20 := by
  unfold fewB at h
  simp only [Bool.and_eq_true, List.all_eq_true, decide_eq_true_eq] at h
  obtain ⟨⟨⟨h1, h2⟩, h3⟩, h4⟩ := h
  exact ⟨h1, h2, by omega, by omega⟩
/-- Events and worlds of whatever size. -/
def Events0 (w : World) (A : Option Addr) (es : List EvC) : Prop := Rd w A (es.flatMap encE) ∧ (∀ x ∈ es, x.ev.s.ok ∧ Rd w x.A (x.ev.needs.map iV) ∧ (∀ n ∈ x.ev.needs, I64 n) ∧ x.ev.needs.length ≤ maxLen) ∧ es.length ≤ maxLen
def Worlds0 (w : World) (A : Option Addr) (ws : List NsC) : Prop := Rd w A (ws.map slI) ∧ (∀ x ∈ ws, Rd w x.A (x.ns.map iV) ∧ (∀ n ∈ x.ns, I64 n) ∧ x.ns.length ≤ maxLen) ∧ ws.length ≤ maxLen
theorem Events0.few {w : World} {A : Option Addr} {es : List EvC} (h : Events0 w A es) (h1 : ∀ x ∈ es, x.ev.needs.length ≤ 8) (h2 : es.length ≤ 16) : Events w A es := ⟨h.1, fun x hx => ⟨(h.2.1 x hx).1, (h.2.1 x hx).2.1, (h.2.1 x hx).2.2.1, by have := h1 x hx; omega⟩, by omega⟩
theorem Worlds0.few {w : World} {A : Option Addr} {es : List NsC} (h : Worlds0 w A es) (h1 : ∀ x ∈ es, x.ns.length ≤ 8) (h2 : es.length ≤ 20) : Worlds w A es := ⟨h.1, fun x hx => ⟨(h.2.1 x hx).1, (h.2.1 x hx).2.1, by have := h1 x hx; omega⟩, by omega⟩
theorem Events0.below {w w' : World} {A : Option Addr} {es : List EvC} (h : Events0 w A es) (hb : Below w.heap.size w w') : Events0 w' A es := ⟨h.1.below hb, fun x hx => ⟨(h.2.1 x hx).1, (h.2.1 x hx).2.1.below hb, (h.2.1 x hx).2.2⟩, h.2.2⟩
theorem Worlds0.below {w w' : World} {A : Option Addr} {es : List NsC} (h : Worlds0 w A es) (hb : Below w.heap.size w w') : Worlds0 w' A es := ⟨h.1.below hb, fun x hx => ⟨(h.2.1 x hx).1.below hb, (h.2.1 x hx).2⟩, h.2.2⟩
set_option maxHeartbeats 2000000 in
set_option maxRecDepth 100000 in
theorem few_any (es : List EvC) (ws : List NsC) (AE AW : Option Addr) (cE cW : Nat) (w : World) (hE : Events0 w AE es) (hW : Worlds0 w AW ws) :
    Calls Try.prog 9 #[.slice AE es.length cE, .slice AW ws.length cW] w fun e w' => e = .returned (.bool (fewB es ws)) ∧ w = w' := by
  have hle : es.length ≤ 9223372036854775807 := by have := hE.2.2; unfold maxLen at this; omega
  have hlw : ws.length ≤ 9223372036854775807 := by have := hW.2.2; unfold maxLen at this; omega
  have HE := Lib.hid hE; clear hE
  have HW := Lib.hid hW; clear hW
  go_enter Try.func9, Try.ntmps9
  go_wp2
  go_loopw [5] (fun i wr => w = wr ∧ ∃ k : Nat, k ≤ es.length ∧ i = iV k ∧ Hid (∀ x ∈ es.take k, x.ev.needs.length ≤ 8)) (fun i _ => es.length - (intOf i).toNat)
  case atStart => exact ⟨rfl, 0, Nat.zero_le _, rfl, fun x hx => by simp at hx⟩
  case round =>
    obtain ⟨rfl, k, hk, rfl, HP⟩ := hrel
    by_cases hlt : k < es.length
    · obtain ⟨b, off, rfl, hb, hc⟩ := HE.out.1.get (i := k * 4 + 3) (by rw [flat_len encE 4 encE_len]; omega)
      have k3 : w.cell? ⟨b, off + k * 4 + 3, none⟩ = some (.slice es[k].A es[k].ev.needs.length es[k].c) := by
        rw [Nat.add_assoc]; exact hc (k * 4 + 3) _ (by rw [flat_get encE 4 encE_len es k 3 hlt (by omega)]; rfl)
      clear hc
      have HT : Hid (es.take (k + 1) = es.take k ++ [es[k]]) := List.take_succ_eq_append_getElem hlt
      have HNO : Hid (¬ es[k].ev.needs.length ≤ 8 → fewB es ws = false) := few_no1 hlt
      have hm : es[k].ev.needs.length ≤ 9223372036854775807 := by have := (HE.out.2.1 _ (List.getElem_mem hlt)).2.2.2; unfold maxLen at this; omega
      generalize es[k] = ek at *
      obtain ⟨⟨s, nd⟩, An, cn⟩ := ek
      simp only at k3 HNO hm
      have i1 : (0 : Int) ≤ (k : Int) := by omega
      have i2 : (k : Int) < (es.length : Int) := by omega
      by_cases h8 : nd.length ≤ 8
      · have h8' : ¬ (8 : Int) < (nd.length : Int) := by omega
        go_wp2
        go_roundw
        case rel => exact ⟨trivial, k + 1, by omega, by go_num, fun x hx => by
          rw [HT.out] at hx
          rcases List.mem_append.1 hx with hx | hx
          · exact HP.out x hx
          · rw [List.mem_singleton.1 hx]; exact h8⟩
        case measure => simp [intOf]; omega
      · have h8' : (8 : Int) < (nd.length : Int) := by omega
        have HF := Lib.hid (HNO.out h8)
        go_wp2
        go_ret
        exact ⟨by rw [HF.out]; rfl, rfl⟩
    · obtain rfl : k = es.length := by omega
      rw [List.take_length] at HP
      go_wp2
      go_loopw [6] (fun i wr => w = wr ∧ ∃ k : Nat, k ≤ ws.length ∧ i = iV k ∧ Hid (∀ x ∈ ws.take k, x.ns.length ≤ 8)) (fun i _ => ws.length - (intOf i).toNat)
      case atStart => exact ⟨rfl, 0, Nat.zero_le _, rfl, fun x hx => by simp at hx⟩
      case round =>
        obtain ⟨rfl, k, hk, rfl, HP2⟩ := hrel
        by_cases hlt : k < ws.length
        · obtain ⟨b, off, rfl, hb, hc⟩ := HW.out.1.get (i := k) (by simpa using hlt)
          have k3 : w.cell? ⟨b, off + k, none⟩ = some (slI ws[k]) := hc k _ (by simp [hlt])
          clear hc
          have HT : Hid (ws.take (k + 1) = ws.take k ++ [ws[k]]) := List.take_succ_eq_append_getElem hlt
          have HNO : Hid (¬ ws[k].ns.length ≤ 8 → fewB es ws = false) := few_no2 hlt
          have hm : ws[k].ns.length ≤ 9223372036854775807 := by have := (HW.out.2.1 _ (List.getElem_mem hlt)).2.2; unfold maxLen at this; omega
          generalize ws[k] = wk at *
          obtain ⟨nk, Ak, ck⟩ := wk
          simp only at HNO hm
          change w.cell? ⟨b, off + k, none⟩ = some (.slice Ak nk.length ck) at k3
          have i1 : (0 : Int) ≤ (k : Int) := by omega
          have i2 : (k : Int) < (ws.length : Int) := by omega
          by_cases h8 : nk.length ≤ 8
          · have h8' : ¬ (8 : Int) < (nk.length : Int) := by omega
            go_wp2
            go_roundw
            case rel => exact ⟨trivial, k + 1, by omega, by go_num, fun x hx => by
              rw [HT.out] at hx
              rcases List.mem_append.1 hx with hx | hx
              · exact HP2.out x hx
              · rw [List.mem_singleton.1 hx]; exact h8⟩
            case measure => simp [intOf]; omega
          · have h8' : (8 : Int) < (nk.length : Int) := by omega
            have HF := Lib.hid (HNO.out h8)
            go_wp2
            go_ret
            exact ⟨by rw [HF.out]; rfl, rfl⟩
        · obtain rfl : k = ws.length := by omega
          rw [List.take_length] at HP2
          have HF := Lib.hid (few_end HP.out HP2.out)
          by_cases h16 : (es.length : Int) ≤ 16
          · go_wp2
            go_ret
            exact ⟨by rw [HF.out, decide_eq_true h16]; simp, rfl⟩
          · go_wp2
            go_ret
            exact ⟨by rw [HF.out, show decide ((es.length : Int) ≤ 16) = false from decide_eq_false (by omega)]; simp, rfl⟩
/-- Sights as they lie in memory. -/
theorem sg_get {w : World} {A : Option Addr} {l : List Sight} (h : Rd w A (l.flatMap encS)) {k : Nat} (hk : k < l.length) : ∃ b off, A = some ⟨b, off, none⟩ ∧ b < w.heap.size ∧ w.cell? ⟨b, off + k * 3, none⟩ = some (iV l[k].o) ∧ w.cell? ⟨b, off + k * 3 + 1, none⟩ = some (iV l[k].lo) ∧ w.cell? ⟨b, off + k * 3 + 2, none⟩ = some (iV l[k].hi) := by
  obtain ⟨b, off, rfl, hb, hc⟩ := h.get (i := k * 3) (by rw [flat_len encS 3 encS_len]; omega)
  refine ⟨b, off, rfl, hb, ?_, ?_, ?_⟩
  · exact hc (k * 3) _ (by rw [show k * 3 = k * 3 + 0 from rfl, flat_get encS 3 encS_len l k 0 hk (by omega)]; rfl)
  · rw [Nat.add_assoc]; exact hc (k * 3 + 1) _ (by rw [flat_get encS 3 encS_len l k 1 hk (by omega)]; rfl)
  · rw [Nat.add_assoc]; exact hc (k * 3 + 2) _ (by rw [flat_get encS 3 encS_len l k 2 hk (by omega)]; rfl)
set_option maxHeartbeats 2000000 in
set_option maxRecDepth 100000 in
theorem same_any (l m : List Sight) (A B : Option Addr) (c d : Nat) (w : World) (hA : Rd w A (l.flatMap encS)) (hB : Rd w B (m.flatMap encS)) (hl : l.length ≤ 1000000) (hm : m.length ≤ 1000000) :
    Calls Try.prog 14 #[.slice A l.length c, .slice B m.length d] w fun e w' => e = .returned (.bool (decide (l = m))) ∧ ∃ q, w' = w.drewN q := by
  have HA := Lib.hid hA; clear hA
  have HB := Lib.hid hB; clear hB
  by_cases hlm : l.length = m.length
  · have hlm' : (l.length : Int) = (m.length : Int) := by omega
    have HL := Lib.hid hlm
    have h1 : ((l.length : Int) != (m.length : Int)) = false := by simp; omega
    clear hlm hlm'
    go_enter Try.func14, Try.ntmps14
    go_wp2
    go_loopw [5] (fun i wr => Hid (∃ q, wr = w.drewN q) ∧ ∃ k : Nat, k ≤ l.length ∧ i = iV k ∧ Hid (l.take k = m.take k)) (fun i _ => l.length - (intOf i).toNat)
    case atStart => exact ⟨⟨0, rfl⟩, 0, Nat.zero_le _, rfl, rfl⟩
    case round =>
      obtain ⟨HQ, k, hk, rfl, HP⟩ := hrel
      by_cases hlt : k < l.length
      · have hlt2 : k < m.length := by have := HL.out; omega
        have HA' : Hid (Rd wr A (l.flatMap encS)) := HA.out.below (below_dq HQ.out)
        have HB' : Hid (Rd wr B (m.flatMap encS)) := HB.out.below (below_dq HQ.out)
        obtain ⟨b, off, rfl, hb, k0, k1, k2⟩ := sg_get HA'.out hlt
        obtain ⟨b', off', rfl, hb', q0, q1, q2⟩ := sg_get HB'.out hlt2
        have i1 : (0 : Int) ≤ (k : Int) := by omega
        have i2 : (k : Int) < (l.length : Int) := by omega
        have i3 : (k : Int) < (m.length : Int) := by omega
        have HT1 : Hid (l.take (k + 1) = l.take k ++ [l[k]]) := List.take_succ_eq_append_getElem hlt
        have HT2 : Hid (m.take (k + 1) = m.take k ++ [m[k]]) := List.take_succ_eq_append_getElem hlt2
        have HX : Hid (l[k] ≠ m[k] → l ≠ m) := fun h e => h (by subst e; rfl)
        generalize l[k] = x at *
        generalize m[k] = y at *
        by_cases hxy : x = y
        · subst hxy
          have hd := eq_yes x
          go_wp2
          go_quiet (fail)
          go_wp2
          go_roundw
          case rel => exact ⟨drew_more HQ.out _, k + 1, by omega, by go_num, by show _ = _; rw [HT1.out, HT2.out, HP.out]⟩
          case measure => simp [intOf]; omega
        · have hd := eq_no hxy
          have HF := Lib.hid (HX.out hxy)
          clear hxy
          go_wp2
          go_quiet (fail)
          go_wp2
          go_ret
          exact ⟨by rw [decide_eq_false HF.out]; rfl, drew_more HQ.out _⟩
      · obtain rfl : k = l.length := by omega
        have HF : Hid (l = m) := by
          have h1 := HP.out
          rw [List.take_length] at h1
          rw [HL.out, List.take_length] at h1
          exact h1
        go_wp2
        go_ret
        exact ⟨by rw [decide_eq_true HF.out]; rfl, HQ.out⟩
  · have h1 : ((l.length : Int) != (m.length : Int)) = true := by simp; omega
    have HF : Hid (l ≠ m) := fun e => hlm (by rw [e])
    clear hlm
    go_enter Try.func14, Try.ntmps14
    go_wp2
    go_ret
    exact ⟨by rw [decide_eq_false HF.out]; rfl, 0, rfl⟩
set_option maxHeartbeats 2000000 in
set_option maxRecDepth 100000 in
theorem isin_any (l : List Sight) (s : Sight) (A : Option Addr) (c : Nat) (w : World) (hA : Rd w A (l.flatMap encS)) (hl : l.length ≤ 1000000) :
    Calls Try.prog 20 #[.slice A l.length c, gV s] w fun e w' => e = .returned (.bool (decide (s ∈ l))) ∧ Below w.heap.size w w' := by
  have HA := Lib.hid hA; clear hA
  go_enter Try.func20, Try.ntmps20
  go_wp2
  go_loopw [5] (fun i wr => Hid (∃ q, wr = (w.alloc (.cells (encS s).toArray 39)).drewN q) ∧ ∃ k : Nat, k ≤ l.length ∧ i = iV k ∧ Hid (s ∉ l.take k)) (fun i _ => l.length - (intOf i).toNat)
  case atStart => exact ⟨⟨0, rfl⟩, 0, Nat.zero_le _, rfl, by simp [Hid]⟩
  case round =>
    obtain ⟨HQ, k, hk, rfl, HP⟩ := hrel
    have HB : Hid (Below w.heap.size w wr) := (ba w _).trans ((below_dq HQ.out).mono (by simp))
    by_cases hlt : k < l.length
    · obtain ⟨b, off, rfl, hb, k0, k1, k2⟩ := sg_get (HA.out.below HB.out) hlt
      have kk : ∀ j u, (encS s)[j]? = some u → wr.cell? ⟨w.heap.size, 0 + j, none⟩ = some u := fun j u h => by
        have := news_at w (encS s) 39 w.heap.size rfl j u h
        rw [add_at] at this
        obtain ⟨q, rfl⟩ := HQ.out
        exact this
      have q0 : wr.cell? ⟨w.heap.size, 0, none⟩ = some (iV s.o) := kk 0 _ rfl
      have q1 : wr.cell? ⟨w.heap.size, 1, none⟩ = some (iV s.lo) := kk 1 _ rfl
      have q2 : wr.cell? ⟨w.heap.size, 2, none⟩ = some (iV s.hi) := kk 2 _ rfl
      clear kk
      have i1 : (0 : Int) ≤ (k : Int) := by omega
      have i2 : (k : Int) < (l.length : Int) := by omega
      have HT : Hid (l.take (k + 1) = l.take k ++ [l[k]]) := List.take_succ_eq_append_getElem hlt
      have HM : Hid (l[k] ∈ l) := List.getElem_mem hlt
      generalize l[k] = x at *
      by_cases hxy : x = s
      · subst hxy
        have hd := eq_yes x
        go_wp2
        go_quiet (fail)
        go_wp2
        go_ret
        exact ⟨by rw [decide_eq_true HM.out]; rfl, below_drewN HB.out _⟩
      · have hd := eq_no hxy
        have HX := Lib.hid hxy
        clear hxy
        go_wp2
        go_quiet (fail)
        go_wp2
        go_roundw
        case rel => exact ⟨drew_more HQ.out _, k + 1, by omega, by go_num, by
          show _ ∉ _
          rw [HT.out]
          intro h
          rcases List.mem_append.1 h with h | h
          · exact HP.out h
          · exact HX.out (List.mem_singleton.1 h).symm⟩
        case measure => simp [intOf]; omega
    · obtain rfl : k = l.length := by omega
      rw [List.take_length] at HP
      go_wp2
      go_ret
      exact ⟨by rw [decide_eq_false HP.out]; rfl, HB.out⟩
set_option maxHeartbeats 1000000 in
theorem sight_any (x : EvC) (w : World) : Calls Try.prog 19 #[evV x] w fun e w' => e = .returned (gV x.ev.s) ∧ Below w.heap.size w w' := by
  go_enter Try.func19, Try.ntmps19
  go_wp2
  exact bodyPost_ret (v := gV x.ev.s) (by simp [results, Try.results19, go_sem]) rfl ⟨rfl, (ba w _).trans ((ba _ _).mono (by simp))⟩
end Go.Proofs.Ytpmogdddngbneaa
