/-
  CapabilitySure: the walk.
-/
import Derived.Test.YtpmogdddngbneaaLawMatches
import Derived.IntWalk
import Derived.Outline
import Derived.Deep.RegionWith
namespace Go.Proofs.Ytpmogdddngbneaa
open Go.RowKit Go.Sort
attribute [local go_sem] sgG

def fndB (ws : List NsC) (x : Sight) (es : List EvC) : Bool := es.any fun e => surely ws e.ev && decide (x = e.ev.s)
theorem fnd_take (ws : List NsC) (x : Sight) (es : List EvC) (k : Nat) (hk : k < es.length) : fndB ws x (es.take (k + 1)) = (fndB ws x (es.take k) || (surely ws es[k].ev && decide (x = es[k].ev.s))) := by
  unfold fndB
  rw [List.take_succ_eq_append_getElem hk, List.any_append]; simp
theorem fnd_seen {ws : List NsC} {es : List EvC} {o : List Sight} (h : Seen (evsOf es) (nsOf ws) o) {i : Nat} (hi : i < o.length) : fndB ws o[i] es = true := by
  obtain ⟨h0, e, he, h1, h2⟩ := (h.2 o[i]).1 (List.getElem_mem hi)
  obtain ⟨x, hx, rfl⟩ := List.mem_map.1 he
  unfold fndB
  rw [List.any_eq_true]
  refine ⟨x, hx, ?_⟩
  have h3 : 0 < ws.length := by
    cases ws with
    | nil => exact absurd rfl h0
    | cons _ _ => simp
  simp [surely, h2, h3, h1]
theorem seen_in {ws : List NsC} {es : List EvC} {o : List Sight} (h : Seen (evsOf es) (nsOf ws) o) {k : Nat} (hk : k < es.length) (hs : surely ws es[k].ev = true) : es[k].ev.s ∈ o := by
  unfold surely at hs
  rw [Bool.and_eq_true, decide_eq_true_eq] at hs
  refine (h.2 _).2 ⟨fun e => ?_, es[k].ev, List.mem_map.2 ⟨es[k], List.getElem_mem hk, rfl⟩, rfl, hs.1⟩
  have := congrArg List.length e
  simp at this
  simp [this] at hs
theorem seen_nil {ws : List NsC} {es : List EvC} {o : List Sight} (h : Seen (evsOf es) (nsOf ws) o) (hw : ws.length = 0) : o.length = 0 := by
  cases o with
  | nil => rfl
  | cons x o =>
    have := ((h.2 x).1 (by simp)).1
    have hw' : ws = [] := List.eq_nil_of_length_eq_zero hw
    subst hw'
    exact absurd rfl this
set_option maxHeartbeats 4000000 in
set_option maxRecDepth 100000 in
theorem sure_main (s : Int) (l : List UInt8) (AE AW : Option Addr) (cE cW : Nat) (evs : List EvC) (ws : List NsC) (w : World) (hs : I64 s) (hl : l.length ≤ 40) (hE : Events0 w AE evs) (hW : Worlds0 w AW ws) (hF : fewB evs ws = true) :
    Calls Try.prog 5 #[iV s, sV l, .slice AE evs.length cE, .slice AW ws.length cW] w fun e w' => e = .returned (.bool true) ∧ Below w.heap.size w w' := by
  obtain ⟨f1, f2, f3, f4⟩ := few_all hF
  have CF : Hid (∀ w', Below w.heap.size w w' → Calls Try.prog 9 #[.slice AE evs.length cE, .slice AW ws.length cW] w' fun e w2 => e = .returned (.bool true) ∧ w' = w2) := fun w' hb => by
    have := few_any evs ws AE AW cE cW w' (hE.below hb) (hW.below hb)
    rwa [hF] at this
  have HE := Lib.hid (hE.few f1 f3)
  have HW := Lib.hid (hW.few f2 f4)
  have HI := Lib.hid hs
  have h40 : ¬ (40 : Int) < (l.length : Int) := by omega
  clear f1 f2 hF hE hW hs
  go_enter Try.func5, Try.ntmps5
  go_wp2_with fail
  refine (head_any _).mono ?_
  rintro e w1 ⟨rfl, hb1⟩
  have HB1 := Lib.hid hb1; clear hb1
  go_wp2_with fail
  refine (CF.out _ HB1.out).mono ?_
  rintro e w2 ⟨rfl, rfl⟩
  go_wp2_with fail
  refine (token_any s l _ HI.out (by omega)).mono ?_
  rintro e w2 ⟨rfl, hb2⟩
  have HB2 := Lib.hid (bt HB1.out hb2); clear hb2
  go_wp2_with fail
  refine (see_ok s l AE AW cE cW evs ws _ HI.out (by omega) (HE.out.below HB2.out) (HW.out.below HB2.out)).mono ?_
  rintro e w3 ⟨A1, c1, o, rfl, hr1, hl1, hsn, hb2⟩
  have HB3 := Lib.hid (bt HB2.out hb2)
  have HE3 := Lib.hid (HE.out.below HB3.out)
  have HW3 := Lib.hid (HW.out.below HB3.out)
  have HR := Lib.hid hr1
  have HSN := Lib.hid hsn
  clear hb2 hr1 hsn HB1 HB2 HE HW CF
  go_wp2
  go_loopw [12] (fun i wr => ∃ k : Nat, k ≤ o.length ∧ i = iV k ∧ Hid (Below w3.heap.size w3 wr)) (fun i _ => o.length - (intOf i).toNat)
  case atStart => exact ⟨0, Nat.zero_le _, rfl, Below.refl _ _⟩
  case round =>
    obtain ⟨k, hk, rfl, HB⟩ := hrel
    by_cases hlt : k < o.length
    · obtain ⟨b, off, rfl, hb, k0, k1, k2⟩ := sg_get (HR.out.below HB.out) hlt
      have i1 : (0 : Int) ≤ (k : Int) := by omega
      have i2 : (k : Int) < (o.length : Int) := by omega
      have HFS := Lib.hid (fnd_seen HSN.out hlt)
      have HSr : Hid (∀ w' : World, Below wr.heap.size wr w' → Rd w' (some ⟨b, off, none⟩) (o.flatMap encS)) := fun w' h => (HR.out.below HB.out).below h
      have HLS : Hid (0 < k → ∀ (h : k - 1 < o.length), lessS o[k - 1] o[k] = true) := fun h0 h => (List.pairwise_iff_getElem.1 HSN.out.1) (k - 1) k h hlt (by omega)
      have HXc : Hid (∀ w' : World, Below w3.heap.size w3 w' → w'.cell? ⟨b, off + k * 3, none⟩ = some (iV o[k].o) ∧ w'.cell? ⟨b, off + k * 3 + 1, none⟩ = some (iV o[k].lo) ∧ w'.cell? ⟨b, off + k * 3 + 2, none⟩ = some (iV o[k].hi) ∧ b < w'.heap.size) := fun w' h => by
        obtain ⟨b_, off_, he, hb_, q⟩ := sg_get (HR.out.below h) hlt
        cases he
        exact ⟨q.1, q.2.1, q.2.2, hb_⟩
      by_cases h0 : (0 : Int) < (k : Int)
      case' pos =>
        obtain ⟨b_, off_, he, _, p0, p1, p2⟩ := sg_get (k := k - 1) (HR.out.below HB.out) (by omega)
        cases he
        have HLS' := Lib.hid (HLS.out (by omega) (by omega))
        generalize o[k - 1] = y at *
        generalize o[k] = x at *
        have HSw : Hid (∀ w' : World, Below wr.heap.size wr w' → w'.cell? ⟨b, off + k * 3, none⟩ = some (iV x.o) ∧ w'.cell? ⟨b, off + k * 3 + 1, none⟩ = some (iV x.lo) ∧ w'.cell? ⟨b, off + k * 3 + 2, none⟩ = some (iV x.hi) ∧ w'.cell? ⟨b, off + (k - 1) * 3, none⟩ = some (iV y.o) ∧ w'.cell? ⟨b, off + (k - 1) * 3 + 1, none⟩ = some (iV y.lo) ∧ w'.cell? ⟨b, off + (k - 1) * 3 + 2, none⟩ = some (iV y.hi)) :=
          fun w' h => ⟨(h.cell (p := ⟨b, off + k * 3, none⟩) hb).trans k0, (h.cell (p := ⟨b, off + k * 3 + 1, none⟩) hb).trans k1, (h.cell (p := ⟨b, off + k * 3 + 2, none⟩) hb).trans k2, (h.cell (p := ⟨b, off + (k - 1) * 3, none⟩) hb).trans p0, (h.cell (p := ⟨b, off + (k - 1) * 3 + 1, none⟩) hb).trans p1, (h.cell (p := ⟨b, off + (k - 1) * 3 + 2, none⟩) hb).trans p2⟩
        have CL := less_any y x
        rw [HLS'.out] at CL
        have CL := Lib.hid CL
        have hn0 : 0 < k := by omega
        have hd0 : decide (0 < k) = true := decide_eq_true hn0
        have hd1 : decide ((0 : Int) < (k : Int)) = true := decide_eq_true h0
        have i3 : (0 : Int) ≤ (k : Int) - 1 := by omega
        have i4 : (k : Int) - 1 < (o.length : Int) := by omega
        have i6 : (1 : Int) ≤ (k : Int) := by omega
        have i7 : ((k : Int) - 1).toNat = k - 1 := by omega
        have i5 : IntKind.i64.wrap ((k : Int) - 1) = (k : Int) - 1 := IntWalk.i64_in _ (by omega)
        go_wp2
        go_region_held3 (fun w' => w'.cell? ⟨b, off + k * 3, none⟩ = some (iV x.o) ∧ w'.cell? ⟨b, off + k * 3 + 1, none⟩ = some (iV x.lo) ∧ w'.cell? ⟨b, off + k * 3 + 2, none⟩ = some (iV x.hi) ∧ w'.cell? ⟨b, off + (k - 1) * 3, none⟩ = some (iV y.o) ∧ w'.cell? ⟨b, off + (k - 1) * 3 + 1, none⟩ = some (iV y.lo) ∧ w'.cell? ⟨b, off + (k - 1) * 3 + 2, none⟩ = some (iV y.hi)) (first | exact HSw.out _ (bdr1 HG3.out.below) | go_keep)
          ((go_at_call 17; refine (CL.out _).mono ?_; rintro e w4 ⟨rfl, hg3⟩; have HG3 := Lib.hid hg3; clear hg3))
        clear i5 i7
        have HB4 : Hid (Below wr.heap.size wr w4) := bdr1 HG3.out.below
        clear HG3 k0 k1 k2 p0 p1 p2 HSw CL HLS HLS' i3 i4 i6
        clear hn0 hd0 hd1
      case' neg =>
        have hn0 : ¬ 0 < k := by omega
        have hd0 : decide (0 < k) = false := decide_eq_false hn0
        have hd1 : decide ((0 : Int) < (k : Int)) = false := decide_eq_false h0
        go_wp2
        go_quiet (fail)
        have HB4 : Hid (Below wr.heap.size wr (wr.drewN nq)) := below_drewN (Below.refl _ _) nq
        generalize wr.drewN nq = w4 at *
        clear k0 k1 k2 HLS hn0 hd0 hd1
        generalize o[k] = x at *
      all_goals
        have HB5 : Hid (Below w3.heap.size w3 w4) := bt HB.out HB4.out
        clear h0 HB4
        go_wp2
        go_loopw [13, 14] (fun f j wy => ∃ m : Nat, m ≤ evs.length ∧ j = iV m ∧ f = .bool (fndB ws x (evs.take m)) ∧ Hid (Below w3.heap.size w3 wy)) (fun _ j _ => evs.length - (intOf j).toNat)
        case atStart => exact ⟨0, Nat.zero_le _, rfl, rfl, HB5⟩
        case round =>
          obtain ⟨m, hm, rfl, rfl, HBy⟩ := hrel
          by_cases hlm : m < evs.length
          · obtain ⟨bE, oE, rfl, hbE, e0, e1, e2, e3⟩ := (HE3.out.below HBy.out).get hlm
            obtain ⟨x0, x1, x2, hbx⟩ := HXc.out _ HBy.out
            have hok := (HE3.out.2.1 evs[m] (List.getElem_mem hlm))
            have CR := Lib.hid (fun w' (h : Below wr.heap.size wr w') => remains_any evs[m] ws AW cW w' hok.1 ((hok.2.below HBy.out).below h) ((HW3.out.below HBy.out).below h))
            have HFT := Lib.hid (fnd_take ws x evs m hlm)
            clear hok
            have HSw : Hid (∀ w' : World, Below wr.heap.size wr w' → w'.cell? ⟨bE, oE + m * 4, none⟩ = some (iV evs[m].ev.s.o) ∧ w'.cell? ⟨bE, oE + m * 4 + 1, none⟩ = some (iV evs[m].ev.s.lo) ∧ w'.cell? ⟨bE, oE + m * 4 + 2, none⟩ = some (iV evs[m].ev.s.hi) ∧ w'.cell? ⟨bE, oE + m * 4 + 3, none⟩ = some (.slice evs[m].A evs[m].ev.needs.length evs[m].c) ∧ w'.cell? ⟨b, off + k * 3, none⟩ = some (iV x.o) ∧ w'.cell? ⟨b, off + k * 3 + 1, none⟩ = some (iV x.lo) ∧ w'.cell? ⟨b, off + k * 3 + 2, none⟩ = some (iV x.hi)) := fun w' h =>
              ⟨(h.cell (p := ⟨bE, oE + m * 4, none⟩) hbE).trans e0, (h.cell (p := ⟨bE, oE + m * 4 + 1, none⟩) hbE).trans e1, (h.cell (p := ⟨bE, oE + m * 4 + 2, none⟩) hbE).trans e2, (h.cell (p := ⟨bE, oE + m * 4 + 3, none⟩) hbE).trans e3, (h.cell (p := ⟨b, off + k * 3, none⟩) hbx).trans x0, (h.cell (p := ⟨b, off + k * 3 + 1, none⟩) hbx).trans x1, (h.cell (p := ⟨b, off + k * 3 + 2, none⟩) hbx).trans x2⟩
            generalize evs[m] = ek at *
            obtain ⟨⟨sg, nd⟩, An, cn⟩ := ek
            simp only at e0 e1 e2 e3 CR HFT HSw
            have j1 : (0 : Int) ≤ (m : Int) := by omega
            have j2 : (m : Int) < (evs.length : Int) := by omega
            cases hf : fndB ws x (evs.take m)
            · rw [hf] at HFT
              have HFF := Lib.hid hf; clear hf
              cases hsu : surely ws ⟨sg, nd⟩
              · rw [hsu] at CR HFT
                have HSU := Lib.hid hsu; clear hsu
                go_wp2
                refine wp_region_noPanic ?_
                refine wp_region_held_drew (S := fun w' => w'.cell? ⟨bE, oE + m * 4, none⟩ = some (iV sg.o) ∧ w'.cell? ⟨bE, oE + m * 4 + 1, none⟩ = some (iV sg.lo) ∧ w'.cell? ⟨bE, oE + m * 4 + 2, none⟩ = some (iV sg.hi) ∧ w'.cell? ⟨bE, oE + m * 4 + 3, none⟩ = some (.slice An nd.length cn) ∧ w'.cell? ⟨b, off + k * 3, none⟩ = some (iV x.o) ∧ w'.cell? ⟨b, off + k * 3 + 1, none⟩ = some (iV x.lo) ∧ w'.cell? ⟨b, off + k * 3 + 2, none⟩ = some (iV x.hi)) (by kernel_rfl) (HSw.out _ (below_drewN (Below.refl _ _) 1)) (fun hHeld => ?_)
                refine wpAnyH_take (i := 0) (v := ?_) rfl (by kernel_rfl) (by kernel_rfl) (by kernel_rfl) (fun _ _ _ h => h) (Or.inl ⟨by kernel_rfl, ?_⟩) (by assumption) ?_
                rotate_left
                · (intro w hSw; (try dsimp only at hSw); go_simp; (try with_reducible rfl))
                try simp only [Act.put, List.setIfInBounds_toArray, List.set_cons_zero, List.set_cons_succ]
                refine wpAnyH_take (i := 1) (v := ?_) rfl (by kernel_rfl) (by kernel_rfl) (by kernel_rfl) (fun _ _ _ h => h) (Or.inl ⟨by kernel_rfl, ?_⟩) (by assumption) ?_
                rotate_left
                · (intro w hSw; (try dsimp only at hSw); go_simp; (try with_reducible rfl))
                try simp only [Act.put, List.setIfInBounds_toArray, List.set_cons_zero, List.set_cons_succ]
                refine wpAnyH_take (i := 2) (v := ?_) rfl (by kernel_rfl) (by kernel_rfl) (by kernel_rfl) (fun _ _ _ h => h) (Or.inl ⟨by kernel_rfl, ?_⟩) (by assumption) ?_
                rotate_left
                · (intro w hSw; (try dsimp only at hSw); go_simp; (try with_reducible rfl))
                try simp only [Act.put, List.setIfInBounds_toArray, List.set_cons_zero, List.set_cons_succ]
                refine wpAnyH_take (i := 3) (v := ?_) rfl (by kernel_rfl) (by kernel_rfl) (by kernel_rfl) (fun _ _ _ h => h) (Or.inl ⟨by kernel_rfl, ?_⟩) (by assumption) ?_
                rotate_left
                · (intro w hSw; (try dsimp only at hSw); go_simp; (try with_reducible rfl))
                try simp only [Act.put, List.setIfInBounds_toArray, List.set_cons_zero, List.set_cons_succ]
                refine wpAnyH_take (i := 4) (v := ?_) rfl (by kernel_rfl) (by kernel_rfl) (by kernel_rfl) (fun _ _ _ h => h) (Or.inl ⟨by kernel_rfl, ?_⟩) (by assumption) ?_
                rotate_left
                · (intro w hSw; (try dsimp only at hSw); go_simp; (try with_reducible rfl))
                try simp only [Act.put, List.setIfInBounds_toArray, List.set_cons_zero, List.set_cons_succ]
                refine wpAnyH_take (i := 5) (v := ?_) rfl (by kernel_rfl) (by kernel_rfl) (by kernel_rfl) (fun _ _ _ h => h) (Or.inl ⟨by kernel_rfl, ?_⟩) (by assumption) ?_
                rotate_left
                · (intro w hSw; (try dsimp only at hSw); go_simp; (try with_reducible rfl))
                try simp only [Act.put, List.setIfInBounds_toArray, List.set_cons_zero, List.set_cons_succ]
                refine wpAnyH_take (i := 6) (v := ?_) rfl (by kernel_rfl) (by kernel_rfl) (by kernel_rfl) (fun _ _ _ h => h) (Or.inl ⟨by kernel_rfl, ?_⟩) (by assumption) ?_
                rotate_left
                · (intro w hSw; (try dsimp only at hSw); go_simp; (try with_reducible rfl))
                try simp only [Act.put, List.setIfInBounds_toArray, List.set_cons_zero, List.set_cons_succ]
                refine wpAnyH_ready (rs := [7]) (by kernel_rfl) (by simp) ?_
                refine AllReadyH.cons rfl (fun K hK => ?_) AllReadyH.nil
                go_simp
                (refine (CR.out _ (below_drewN (Below.refl _ _) 1)).mono ?_; rintro e w6 ⟨rfl, hb6⟩; have HB6 := Lib.hid (bdr1 hb6); clear hb6)
                go_wp2_with fail
                refine hK.out _ _ (HSw.out _ HB6.out) (fun hHeld => ?_)
                clear hK K
                try simp only [Act.put, List.setIfInBounds_toArray, List.set_cons_zero, List.set_cons_succ]
                refine wpAnyH_take (i := 8) (v := ?_) rfl (by kernel_rfl) (by kernel_rfl) (by kernel_rfl) (fun _ _ _ h => h) (Or.inl ⟨by kernel_rfl, ?_⟩) (by assumption) ?_
                rotate_left
                · (intro w hSw; (try dsimp only at hSw); go_simp; (try with_reducible rfl))
                try simp only [Act.put, List.setIfInBounds_toArray, List.set_cons_zero, List.set_cons_succ]
                refine wpAnyH_take (i := 9) (v := undef) rfl (by kernel_rfl) (by kernel_rfl) (by kernel_rfl) (fun _ _ _ h => h) (Or.inr ⟨by kernel_rfl, rfl⟩) (by assumption) ?_
                try simp only [Act.put, List.setIfInBounds_toArray, List.set_cons_zero, List.set_cons_succ]
                refine wpAnyH_take (i := 10) (v := undef) rfl (by kernel_rfl) (by kernel_rfl) (by kernel_rfl) (fun _ _ _ h => h) (Or.inr ⟨by kernel_rfl, rfl⟩) (by assumption) ?_
                try simp only [Act.put, List.setIfInBounds_toArray, List.set_cons_zero, List.set_cons_succ]
                refine wpAnyH_take (i := 11) (v := undef) rfl (by kernel_rfl) (by kernel_rfl) (by kernel_rfl) (fun _ _ _ h => h) (Or.inr ⟨by kernel_rfl, rfl⟩) (by assumption) ?_
                try simp only [Act.put, List.setIfInBounds_toArray, List.set_cons_zero, List.set_cons_succ]
                refine wpAnyH_take (i := 12) (v := undef) rfl (by kernel_rfl) (by kernel_rfl) (by kernel_rfl) (fun _ _ _ h => h) (Or.inr ⟨by kernel_rfl, rfl⟩) (by assumption) ?_
                try simp only [Act.put, List.setIfInBounds_toArray, List.set_cons_zero, List.set_cons_succ]
                refine wpAnyH_take (i := 13) (v := undef) rfl (by kernel_rfl) (by kernel_rfl) (by kernel_rfl) (fun _ _ _ h => h) (Or.inr ⟨by kernel_rfl, rfl⟩) (by assumption) ?_
                try simp only [Act.put, List.setIfInBounds_toArray, List.set_cons_zero, List.set_cons_succ]
                refine wpAnyH_take (i := 14) (v := undef) rfl (by kernel_rfl) (by kernel_rfl) (by kernel_rfl) (fun _ _ _ h => h) (Or.inr ⟨by kernel_rfl, rfl⟩) (by assumption) ?_
                try simp only [Act.put, List.setIfInBounds_toArray, List.set_cons_zero, List.set_cons_succ]
                refine wpAnyH_take (i := 15) (v := undef) rfl (by kernel_rfl) (by kernel_rfl) (by kernel_rfl) (fun _ _ _ h => h) (Or.inr ⟨by kernel_rfl, rfl⟩) (by assumption) ?_
                try simp only [Act.put, List.setIfInBounds_toArray, List.set_cons_zero, List.set_cons_succ]
                refine wpAnyH_take (i := 16) (v := undef) rfl (by kernel_rfl) (by kernel_rfl) (by kernel_rfl) (fun _ _ _ h => h) (Or.inr ⟨by kernel_rfl, rfl⟩) (by assumption) ?_
                try simp only [Act.put, List.setIfInBounds_toArray, List.set_cons_zero, List.set_cons_succ]
                refine wpAnyH_take (i := 17) (v := undef) rfl (by kernel_rfl) (by kernel_rfl) (by kernel_rfl) (fun _ _ _ h => h) (Or.inr ⟨by kernel_rfl, rfl⟩) (by assumption) ?_
                try simp only [Act.put, List.setIfInBounds_toArray, List.set_cons_zero, List.set_cons_succ]
                refine wpAnyH_take (i := 18) (v := undef) rfl (by kernel_rfl) (by kernel_rfl) (by kernel_rfl) (fun _ _ _ h => h) (Or.inr ⟨by kernel_rfl, rfl⟩) (by assumption) ?_
                try simp only [Act.put, List.setIfInBounds_toArray, List.set_cons_zero, List.set_cons_succ]
                refine wpAnyH_take (i := 19) (v := ?_) rfl (by kernel_rfl) (by kernel_rfl) (by kernel_rfl) (fun _ _ _ h => h) (Or.inl ⟨by kernel_rfl, ?_⟩) (by assumption) ?_
                rotate_left
                · (intro w hSw; (try dsimp only at hSw); go_simp; (try with_reducible rfl))
                try simp only [Act.put, List.setIfInBounds_toArray, List.set_cons_zero, List.set_cons_succ]
                refine wpAnyH_take (i := 20) (v := ?_) rfl (by kernel_rfl) (by kernel_rfl) (by kernel_rfl) (fun _ _ _ h => h) (Or.inl ⟨by kernel_rfl, ?_⟩) (by assumption) ?_
                rotate_left
                · (intro w hSw; (try dsimp only at hSw); go_simp; (try with_reducible rfl))
                try simp only [Act.put, List.setIfInBounds_toArray, List.set_cons_zero, List.set_cons_succ]
                refine wpAnyH_take (i := 21) (v := ?_) rfl (by kernel_rfl) (by kernel_rfl) (by kernel_rfl) (fun _ _ _ h => h) (Or.inl ⟨by kernel_rfl, ?_⟩) (by assumption) ?_
                rotate_left
                · (intro w hSw; (try dsimp only at hSw); go_simp; (try with_reducible rfl))
                try simp only [Act.put, List.setIfInBounds_toArray, List.set_cons_zero, List.set_cons_succ]
                refine wpAnyH_done (by kernel_rfl) ?_ _
                refine NoPanic.normal ?_
                go_wp2
                go_roundw
                case rel => exact ⟨m + 1, by omega, by go_num, by rw [HFT.out]; rfl, bt HBy.out HB6.out⟩
                case measure => simp [intOf]; omega
              · rw [hsu] at CR HFT
                have HSU := Lib.hid hsu; clear hsu
                by_cases hxs : x = sg
                · subst hxs
                  have hd := eq_yes x
                  go_wp2
                  go_region_held3 (fun w' => w'.cell? ⟨bE, oE + m * 4, none⟩ = some (iV x.o) ∧ w'.cell? ⟨bE, oE + m * 4 + 1, none⟩ = some (iV x.lo) ∧ w'.cell? ⟨bE, oE + m * 4 + 2, none⟩ = some (iV x.hi) ∧ w'.cell? ⟨bE, oE + m * 4 + 3, none⟩ = some (.slice An nd.length cn) ∧ w'.cell? ⟨b, off + k * 3, none⟩ = some (iV x.o) ∧ w'.cell? ⟨b, off + k * 3 + 1, none⟩ = some (iV x.lo) ∧ w'.cell? ⟨b, off + k * 3 + 2, none⟩ = some (iV x.hi)) (first | exact HSw.out _ HB7.out | exact HSw.out _ HB6.out | exact HSw.out _ (below_drewN (Below.refl _ _) 1) | go_keep)
                    (first
                      | (go_at_call 18; refine (CR.out _ (below_drewN (Below.refl _ _) 1)).mono ?_; rintro e w6 ⟨rfl, hb6⟩; have HB6 := Lib.hid (bdr1 hb6); clear hb6)
                      | (go_at_call 19; refine (sight_any ⟨⟨x, nd⟩, An, cn⟩ _).mono ?_; rintro e w7 ⟨rfl, hb7⟩; have HB7 := Lib.hid (bt HB6.out hb7); clear hb7)
                      | fail)
                  go_wp2
                  go_roundw
                  case rel => exact ⟨m + 1, by omega, by go_num, by rw [HFT.out]; simp, bt HBy.out HB7.out⟩
                  case measure => simp [intOf]; omega
                · have hd := eq_no hxs
                  have HXS := Lib.hid hxs; clear hxs
                  go_wp2
                  go_region_held3 (fun w' => w'.cell? ⟨bE, oE + m * 4, none⟩ = some (iV sg.o) ∧ w'.cell? ⟨bE, oE + m * 4 + 1, none⟩ = some (iV sg.lo) ∧ w'.cell? ⟨bE, oE + m * 4 + 2, none⟩ = some (iV sg.hi) ∧ w'.cell? ⟨bE, oE + m * 4 + 3, none⟩ = some (.slice An nd.length cn) ∧ w'.cell? ⟨b, off + k * 3, none⟩ = some (iV x.o) ∧ w'.cell? ⟨b, off + k * 3 + 1, none⟩ = some (iV x.lo) ∧ w'.cell? ⟨b, off + k * 3 + 2, none⟩ = some (iV x.hi)) (first | exact HSw.out _ HB7.out | exact HSw.out _ HB6.out | exact HSw.out _ (below_drewN (Below.refl _ _) 1) | go_keep)
                    (first
                      | (go_at_call 18; refine (CR.out _ (below_drewN (Below.refl _ _) 1)).mono ?_; rintro e w6 ⟨rfl, hb6⟩; have HB6 := Lib.hid (bdr1 hb6); clear hb6)
                      | (go_at_call 19; refine (sight_any ⟨⟨sg, nd⟩, An, cn⟩ _).mono ?_; rintro e w7 ⟨rfl, hb7⟩; have HB7 := Lib.hid (bt HB6.out hb7); clear hb7)
                      | fail)
                  go_wp2
                  go_roundw
                  case rel => exact ⟨m + 1, by omega, by go_num, by rw [HFT.out, decide_eq_false HXS.out]; rfl, bt HBy.out HB7.out⟩
                  case measure => simp [intOf]; omega
            · rw [hf] at HFT
              have HFF := Lib.hid hf; clear hf
              go_wp2
              go_quiet (fail)
              go_wp2
              go_roundw
              case rel => exact ⟨m + 1, by omega, by go_num, by rw [HFT.out]; rfl, below_drewN HBy.out _⟩
              case measure => simp [intOf]; omega
          · obtain rfl : m = evs.length := by omega
            rw [List.take_length, HFS.out]
            go_wp2
            go_roundw
            case rel => exact ⟨k + 1, by omega, by go_num, HBy⟩
            case measure => simp [intOf]; omega
    · obtain rfl : k = o.length := by omega
      clear hlt
      have HNIL : Hid (ws.length = 0 → o.length = 0) := fun h => seen_nil HSN.out h
      go_wp2
      go_loopw [15] (fun i wy => ∃ m : Nat, m ≤ evs.length ∧ i = iV m ∧ Hid (Below w3.heap.size w3 wy)) (fun i _ => evs.length - (intOf i).toNat)
      case atStart => exact ⟨0, Nat.zero_le _, rfl, HB⟩
      case round =>
        obtain ⟨m, hm, rfl, HBy⟩ := hrel
        by_cases hlm : m < evs.length
        · obtain ⟨wy, rfl⟩ : ∃ wy : World, wy = wr := ⟨_, rfl⟩
          obtain ⟨bE, oE, rfl, hbE, e0, e1, e2, e3⟩ := (HE3.out.below HBy.out).get hlm
          have hok := (HE3.out.2.1 evs[m] (List.getElem_mem hlm))
          have CR := Lib.hid (remains_any evs[m] ws AW cW wy hok.1 (hok.2.below HBy.out) (HW3.out.below HBy.out))
          have HIN : Hid (surely ws evs[m].ev = true → evs[m].ev.s ∈ o) := fun h => seen_in HSN.out hlm h
          clear hok
          have HSw : Hid (∀ w' : World, Below wy.heap.size wy w' → w'.cell? ⟨bE, oE + m * 4, none⟩ = some (iV evs[m].ev.s.o) ∧ w'.cell? ⟨bE, oE + m * 4 + 1, none⟩ = some (iV evs[m].ev.s.lo) ∧ w'.cell? ⟨bE, oE + m * 4 + 2, none⟩ = some (iV evs[m].ev.s.hi) ∧ w'.cell? ⟨bE, oE + m * 4 + 3, none⟩ = some (.slice evs[m].A evs[m].ev.needs.length evs[m].c)) := fun w' h =>
            ⟨(h.cell (p := ⟨bE, oE + m * 4, none⟩) hbE).trans e0, (h.cell (p := ⟨bE, oE + m * 4 + 1, none⟩) hbE).trans e1, (h.cell (p := ⟨bE, oE + m * 4 + 2, none⟩) hbE).trans e2, (h.cell (p := ⟨bE, oE + m * 4 + 3, none⟩) hbE).trans e3⟩
          generalize evs[m] = ek at *
          obtain ⟨⟨sg, nd⟩, An, cn⟩ := ek
          simp only at e0 e1 e2 e3 CR HIN HSw
          have j1 : (0 : Int) ≤ (m : Int) := by omega
          have j2 : (m : Int) < (evs.length : Int) := by omega
          cases hsu : surely ws ⟨sg, nd⟩
          · rw [hsu] at CR
            clear hsu HIN
            go_wp2_with fail
            refine CR.out.mono ?_
            rintro e w6 ⟨rfl, hb6⟩
            have HB6 := Lib.hid (bt HBy.out hb6); clear hb6
            go_wp2
            go_roundw
            case rel => exact ⟨m + 1, by omega, by go_num, HB6.out⟩
            case measure => simp [intOf]; omega
          · have HM := Lib.hid (HIN.out hsu)
            rw [hsu] at CR
            clear hsu HIN
            go_wp2_with fail
            refine CR.out.mono ?_
            rintro e w6 ⟨rfl, hb6⟩
            obtain ⟨f0, f1, f2, f3⟩ := HSw.out _ hb6
            have HB6 := Lib.hid hb6; clear hb6 e0 e1 e2 e3
            go_wp2_with fail
            refine (sight_any ⟨⟨sg, nd⟩, An, cn⟩ _).mono ?_
            rintro e w7 ⟨rfl, hb7⟩
            have HB7 := Lib.hid (bt HBy.out (bt HB6.out hb7)); clear hb7
            have CI := isin_any o sg A1 c1 w7 (HR.out.below HB7.out) hl1
            rw [decide_eq_true HM.out] at CI
            have CI := Lib.hid CI
            go_wp2_with fail
            refine CI.out.mono ?_
            rintro e w8 ⟨rfl, hb8⟩
            have HB8 := Lib.hid (bt HB7.out hb8); clear hb8
            go_wp2
            go_roundw
            case rel => exact ⟨m + 1, by omega, by go_num, HB8.out⟩
            case measure => simp [intOf]; omega
        · obtain rfl : m = evs.length := by omega
          by_cases hw0 : ws.length = 0
          · have h01 : ¬ 0 < ws.length := by omega
            have h02 := HNIL.out hw0
            have h03 : ((o.length : Int) == 0) = true := by simp; exact List.eq_nil_of_length_eq_zero h02
            clear h02 hw0
            go_wp2
            go_ret
            exact ⟨rfl, bt HB3.out HBy.out⟩
          · have h01 : 0 < ws.length := by omega
            clear hw0
            go_wp2
            go_ret
            exact ⟨rfl, bt HB3.out HBy.out⟩
set_option maxHeartbeats 2000000 in
set_option maxRecDepth 100000 in
theorem csure_any (s : Int) (l : List UInt8) (AE AW : Option Addr) (cE cW : Nat) (evs : List EvC) (ws : List NsC) (w : World) (hs : I64 s) (hl : Len l) (hE : Events0 w AE evs) (hW : Worlds0 w AW ws) :
    Calls Try.prog 5 #[iV s, sV l, .slice AE evs.length cE, .slice AW ws.length cW] w fun e w' => e = .returned (.bool true) ∧ Below w.heap.size w w' := by
  by_cases h40 : l.length ≤ 40
  · cases hF : fewB evs ws
    · have CF : Hid (∀ w', Below w.heap.size w w' → Calls Try.prog 9 #[.slice AE evs.length cE, .slice AW ws.length cW] w' fun e w2 => e = .returned (.bool false) ∧ w' = w2) := fun w' hb => by
        have := few_any evs ws AE AW cE cW w' (hE.below hb) (hW.below hb)
        rwa [hF] at this
      have h40' : ¬ (40 : Int) < (l.length : Int) := by omega
      clear hF hE hW h40
      go_enter Try.func5, Try.ntmps5
      go_wp2_with fail
      refine (head_any _).mono ?_
      rintro e w1 ⟨rfl, hb1⟩
      have HB1 := Lib.hid hb1; clear hb1
      go_wp2_with fail
      refine (CF.out _ HB1.out).mono ?_
      rintro e w2 ⟨rfl, rfl⟩
      go_wp2
      go_ret
      exact ⟨rfl, HB1.out⟩
    · exact sure_main s l AE AW cE cW evs ws w hs h40 hE hW hF
  · have h40' : (40 : Int) < (l.length : Int) := by omega
    clear h40 hE hW hs
    go_enter Try.func5, Try.ntmps5
    go_wp2_with fail
    refine (head_any _).mono ?_
    rintro e w1 ⟨rfl, hb1⟩
    have HB1 := Lib.hid hb1; clear hb1
    go_wp2
    go_ret
    exact ⟨rfl, HB1.out⟩
end Go.Proofs.Ytpmogdddngbneaa
