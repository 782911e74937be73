/-
  CapabilityHidden: the walk.
-/
import Derived.Test.YtpmogdddngbneaaCapHide
import Derived.Deep.RegionLaw
namespace Go.Proofs.Ytpmogdddngbneaa
open Go.RowKit Go.Sort
attribute [local go_sem] sgG

theorem hideE_len (ws : List NsC) (d : Int) (es : List EvC) : (hideE ws d es).length ≤ es.length := by
  unfold hideE
  have := List.length_filter_le (surely ws) (evsOf es)
  simp at this ⊢
  exact this
theorem evs_len {L es : List EvC} {ws : List NsC} {d : Int} (h : evsOf L = hideE ws d es) : L.length ≤ es.length := by
  have := congrArg List.length h
  have h2 := hideE_len ws d es
  simp [evsOf] at this
  omega
theorem hideW_len (d : Int) (ws : List NsC) : (hideW d ws).length = ws.length := by unfold hideW; simp
theorem ws_len {M ws : List NsC} {d : Int} (h : nsOf M = hideW d ws) : M.length = ws.length := by
  have := congrArg List.length h
  rw [hideW_len] at this
  simpa [nsOf] using this
/-- A row from X on, apart from a row that ends before X. -/
theorem far_row {w6 w7 : World} {X c n k : Nat} {e : TypeId} {A : Option Addr} {xs : List Value} {v : Value} (h : w6.ownsRow X e k (.slice A n c) n xs) (hv : ∀ g, v.ownBlock = some g → g < X) (hs : w6.heap.size ≤ w7.heap.size) : ∀ a, A = some a → a.block < w7.heap.size ∧ some a.block ≠ v.ownBlock := fun a ha =>
  ⟨Nat.lt_of_lt_of_le (own_at h a ha).1 hs, fun e => by have := hv _ e.symm; have := (own_at h a ha).2; omega⟩
theorem own_lt {w : World} {base : Nat} {e : TypeId} {size : Nat} {v : Value} {n : Nat} {xs : List Value} (h : w.ownsRow base e size v n xs) : ∀ g, v.ownBlock = some g → g < w.heap.size := fun g hg => by have := h.lt g hg; omega
set_option maxHeartbeats 8000000 in
set_option maxRecDepth 100000 in
theorem hidden_main (s x : Int) (l : List UInt8) (AE AW : Option Addr) (cE cW : Nat) (evs : List EvC) (ws : List NsC) (w : World) (hs : I64 s) (hl : l.length ≤ 40) (hE : Events0 w AE evs) (hW : Worlds0 w AW ws) (hF : fewB evs ws = true) (hx0 : 0 ≤ x) (hx1 : x ≤ 65535) :
    Calls Try.prog 6 #[iV s, sV l, .slice AE evs.length cE, .slice AW ws.length cW, .int .u16 x] w fun e w' => e = .returned (.bool true) ∧ Below w.heap.size w w' := by
  obtain ⟨i0, hi0, hz0, hz1, hz2⟩ := info_parts eventInf
  obtain ⟨j0, hj0, hy0, hy1, hy2⟩ := info_parts numsInf
  obtain ⟨n0, hnI, ho0, ho1, ho2⟩ := info_parts intInf
  obtain ⟨f1, f2, f3, f4⟩ := few_all hF
  have CF : Hid (∀ w', Below w.heap.size w w' → Calls Try.prog 9 #[.slice AE evs.length cE, .slice AW ws.length cW] w' fun e w2 => e = .returned (.bool true) ∧ w' = w2) := fun w' hb => by
    have := few_any evs ws AE AW cE cW w' (hE.below hb) (hW.below hb)
    rwa [hF] at this
  have HN8 : Hid (∀ y ∈ evs, y.ev.needs.length ≤ 8) := f1
  have HW8 : Hid (∀ y ∈ ws, y.ns.length ≤ 8) := f2
  have HE := Lib.hid (hE.few f1 f3)
  have HW := Lib.hid (hW.few f2 f4)
  have HI := Lib.hid hs
  have h40 : ¬ (40 : Int) < (l.length : Int) := by omega
  clear f1 f2 hF hE hW hs
  go_enter Try.func6, Try.ntmps6
  go_wp2_with fail
  refine (head_any _).mono ?_
  rintro e w1 ⟨rfl, hb1⟩
  have HB1 := Lib.hid hb1; clear hb1
  go_wp2_with fail
  refine (CF.out _ HB1.out).mono ?_
  rintro e w2 ⟨rfl, rfl⟩
  have HE1 := Lib.hid (HE.out.below HB1.out)
  have HW1 := Lib.hid (HW.out.below HB1.out)
  clear CF HE HW
  go_wp2
  go_loopw [12, 13] (fun v i wr => ∃ (j : Nat) (L : List EvC), j ≤ evs.length ∧ i = iV ((j : Int) - 1) ∧ Hid (Outs wr w1.heap.size v L) ∧ Hid (evsOf L = hideE ws x (evs.drop j)) ∧ Hid (Below w1.heap.size w1 wr)) (fun _ i _ => (intOf i + 1).toNat)
  case atStart => exact ⟨evs.length, [], Nat.le_refl _, rfl, Outs.start w1 _ rfl, by show _ = _; rw [List.drop_length]; rfl, ba w1 _⟩
  case round =>
    obtain ⟨j, L, hj, rfl, HO, HL, HB⟩ := hrel
    have hL : L.length ≤ evs.length := by have := evs_len HL.out; simp at this; omega
    obtain ⟨A1, c1, rfl⟩ := own_form HO.out.row
    obtain ⟨wo, rfl⟩ : ∃ wo : World, wo = wr := ⟨_, rfl⟩
    cases j with
    | succ j =>
      have e0 : (((j + 1 : Nat) : Int) - 1) = (j : Int) := by omega
      rw [e0]
      clear e0
      obtain ⟨bE, oE, rfl, hbE, e0, e1, e2, e3⟩ := (HE1.out.below HB.out).get (k := j) (by omega)
      have hin := List.getElem_mem (l := evs) (n := j) (by omega)
      have hok := HE1.out.2.1 _ hin
      have hnl := HN8.out _ hin
      have CR := Lib.hid (fun w' (h : Below w1.heap.size w1 w') => remains_any evs[j] ws AW cW w' hok.1 (hok.2.below h) (HW1.out.below h))
      have hjl : j < evs.length := by omega
      have HYES := Lib.hid (fun (h : surely ws evs[j].ev = true) => hideE_yes (d := x) hjl h)
      have HNO := Lib.hid (fun (h : surely ws evs[j].ev = false) => hideE_no (d := x) hjl h)
      clear hin
      have HSw : Hid (∀ w' : World, Below wo.heap.size wo w' → w'.cell? ⟨bE, oE + j * 4, none⟩ = some (iV evs[j].ev.s.o) ∧ w'.cell? ⟨bE, oE + j * 4 + 1, none⟩ = some (iV evs[j].ev.s.lo) ∧ w'.cell? ⟨bE, oE + j * 4 + 2, none⟩ = some (iV evs[j].ev.s.hi) ∧ w'.cell? ⟨bE, oE + j * 4 + 3, none⟩ = some (.slice evs[j].A evs[j].ev.needs.length evs[j].c)) := fun w' h =>
        ⟨(h.cell (p := ⟨bE, oE + j * 4, none⟩) hbE).trans e0, (h.cell (p := ⟨bE, oE + j * 4 + 1, none⟩) hbE).trans e1, (h.cell (p := ⟨bE, oE + j * 4 + 2, none⟩) hbE).trans e2, (h.cell (p := ⟨bE, oE + j * 4 + 3, none⟩) hbE).trans e3⟩
      generalize evs[j] = ek at *
      obtain ⟨⟨sg, nd⟩, An, cn⟩ := ek
      simp only at e0 e1 e2 e3 CR HYES HNO HSw hok hnl
      have HN := Lib.hid hok.2
      have HK := Lib.hid hok.1
      clear hok
      have j1 : (0 : Int) ≤ (j : Int) := by omega
      have j2 : (j : Int) < (evs.length : Int) := by omega
      go_wp2
      go_loopw [15] (fun i wy => ∃ (k : Nat) (v : Value), k ≤ nd.length ∧ i = iV k ∧ Hid (Bx wy wo.heap.size sg v (up x (nd.take k))) ∧ Hid (Below wo.heap.size wo wy) ∧ Hid (∀ n ∈ nd.take k, 0 ≤ n ∧ n ≤ 1000000)) (fun i _ => nd.length - (intOf i).toNat)
      case atStart => exact ⟨0, _, Nat.zero_le _, rfl, Bx.start wo sg _ rfl, ba wo _, fun n hn => by simp at hn⟩
      case round =>
        obtain ⟨k, v, hk, rfl, HX, HBy, HA⟩ := hrel
        obtain ⟨wy, rfl⟩ : ∃ wy : World, wy = wr := ⟨_, rfl⟩
        obtain ⟨A, c, rfl⟩ := own_form HX.out.row
        have HBw : Hid (Below w1.heap.size w1 wy) := HB.out.trans (HBy.out.mono HB.out.size)
        obtain ⟨d0, d1, d2, d3⟩ := HSw.out _ HBy.out
        by_cases hlk : k < nd.length
        · obtain ⟨b3, o3, rfl, hb3, hc3⟩ := (HN.out.1.below HBw.out).get (i := k) (by simpa using hlk)
          have k4 : wy.cell? ⟨b3, o3 + k, none⟩ = some (iV nd[k]) := hc3 k _ (by simp [hlk])
          clear hc3
          have HT1 := Lib.hid (up_take x nd k hlk)
          have HA1 := Lib.hid (all_snoc hlk HA.out)
          have hmsl : (up x (nd.take k)).length = k := by rw [up_len, List.length_take]; omega
          generalize nd[k] = n at *
          generalize up x (nd.take k) = ms at *
          have hmsl' : ms.length ≤ 8 := by omega
          have HMS := Lib.hid hmsl
          clear hmsl
          have i3 : (0 : Int) ≤ (k : Int) := by omega
          have i4 : (k : Int) < (nd.length : Int) := by omega
          by_cases hn0 : n < 0
          · go_wp2
            go_ret
            exact ⟨rfl, bt HB1.out HBw.out⟩
          by_cases hn1 : 1000000 < n
          · go_wp2
            go_ret
            exact ⟨rfl, bt HB1.out HBw.out⟩
          have hn2 : 0 ≤ n := by omega
          have hn3 : n ≤ 1000000 := by omega
          obtain ⟨q0, q1, q2, q3, q4, _⟩ := HX.out
          have hXl := HX.out.lt
          have hEl : bE < wy.heap.size := Nat.lt_of_lt_of_le hbE HBy.out.size
          have wx : IntKind.i64.wrap x = x := IntWalk.i64_in _ (by omega)
          have wn : IntKind.i64.wrap (n + x) = n + x := IntWalk.i64_in _ (by omega)
          go_wp2
          go_region_law (first
            | (refine step_app (by rfl) (.tmp 81) (.tmp 93) 34 34 (by rfl) (wo.heap.size + 1) 3 n0 _ 1 8 Try.underlying34 hnI ho0 ho1 ho2 (by rfl) _ ms.length (ms.map iV) (by rfl) (HX.out.row.alloc _) _ (by rfl) 1 ([n + x].map iV) (src_rd Try.underlying34 (Rd.new wy [iV (n + x)] 3) (by rfl) (one_i _)) (by unfold maxLen; omega) (by omega) (by have := HX.out.lt; simp; omega) ?_; intro A4 c4 w4 hown4 hgrow4 _; have HX4 := Lib.hid (Bx.put (HX.out.below (below_drewN (ba wy _) 1)) hgrow4 hown4); have HB4 := Lib.hid (app_below (below_drewN ((ba wy _).mono (Nat.le_of_lt HX.out.lt)) 1) (Nat.le_of_lt HX.out.lt) (HX.out.row.alloc _) (Nat.le_succ _) hgrow4); obtain ⟨g0, g1, g2, g3, g4⟩ := Bx.grew (HX.out.below (below_drewN (ba wy _) 1)) hgrow4; clear hown4 hgrow4))
          all_goals
            go_wp2
            go_roundw
            case rel => exact ⟨k + 1, _, by omega, by go_num, by show Bx _ _ _ _ _; rw [HT1.out]; exact HX4.out, set_below (HBy.out.trans HB4.out) (Nat.le_refl _) 3 _, HA1.out hn2 hn3⟩
            case measure => simp [intOf]; omega
        · obtain rfl : k = nd.length := by omega
          rw [List.take_length] at HX HA
          have HMI := Lib.hid (up_i64 HA.out hx0 hx1)
          have HUP : Hid (upE x ⟨sg, nd⟩ = ⟨sg, up x nd⟩) := rfl
          have hmsl : (up x nd).length = nd.length := up_len _ _
          generalize up x nd = ms at *
          have hms8 : ms.length ≤ 8 := by omega
          clear hmsl
          have CR := Lib.hid (CR.out wy HBw.out)
          have hEl : bE < wy.heap.size := Nat.lt_of_lt_of_le hbE HBy.out.size
          cases hsu : surely ws ⟨sg, nd⟩ with
          | false =>
            rw [hsu] at CR
            have HN2 := Lib.hid (HNO.out hsu)
            clear hsu HYES HNO
            go_wp2_with fail
            refine CR.out.mono ?_
            rintro e w6 ⟨rfl, hb6⟩
            have HB6 := Lib.hid (bt HBy.out hb6); clear hb6
            go_wp2
            go_roundw
            case rel => exact ⟨j, L, by omega, by go_num, HO.out.below HB6.out, HL.out.trans HN2.out.symm, HB.out.trans (HB6.out.mono HB.out.size)⟩
            case measure => simp [intOf]
          | true =>
            rw [hsu] at CR
            have HY2 := Lib.hid (HYES.out hsu)
            clear hsu HYES HNO
            go_wp2_with fail
            refine CR.out.mono ?_
            rintro e w6 ⟨rfl, hb6⟩
            have HX6 := Lib.hid (HX.out.below hb6)
            have HB6 := Lib.hid (bt HBy.out hb6); clear hb6
            have HO6 := Lib.hid (HO.out.below HB6.out)
            obtain ⟨q0, q1, q2, q3, q4, _⟩ := HX6.out
            have hXl := HX6.out.lt
            clear d0 d1 d2 d3 e0 e1 e2 e3
            go_wp2_with (at_builtin; go_must (refine wpList_app (by rfl) (.tmp 102) (.tmp 104) _ _ (by rfl) w1.heap.size 42 i0 _ 4 48 Try.underlying22 hi0 hz0 hz1 hz2 (by rfl) _ L.length (L.flatMap encE) (by rfl) (HO6.out.row.alloc _) _ (by rfl) 1 (encE ⟨⟨sg, ms⟩, A, c⟩) (src_kA 4 (by decide) Try.underlying22 (Rd.new w6 (encE ⟨⟨sg, ms⟩, A, c⟩) 42) (by rfl) (one_e _)) (by unfold maxLen; omega) (by omega) (by have := (HB.out.trans (HB6.out.mono HB.out.size)).size; simp; omega) ?_); intro A7 c7 w7 hown7 hgrow7 hat7; have HO7 := Lib.hid (Outs.put (HO6.out.below (ba w6 _)) ⟨HK.out, (own_nums HX6.out.row HMI.out (by omega)).below (ba w6 _)⟩ (far_row (w7 := w6.alloc _) HX6.out.row (fun g hg => Nat.lt_succ_of_lt (own_lt HO.out.row g hg)) (ba w6 _).size) hown7 hgrow7 hat7); have HB7 := Lib.hid (app_below ((HB.out.trans (HB6.out.mono HB.out.size)).trans ((ba w6 _).mono (HB.out.trans (HB6.out.mono HB.out.size)).size)) (Nat.le_refl _) (HO6.out.row.alloc _) (Nat.le_refl _) hgrow7); clear hown7 hgrow7 hat7)
            go_wp2
            go_roundw
            case rel => exact ⟨j, L ++ [⟨⟨sg, ms⟩, A, c⟩], by omega, by go_num, HO7, by show _ = _; rw [evsOf, List.map_append, HY2.out, ← HL.out, HUP.out]; rfl, HB7.out⟩
            case measure => simp [intOf]
    | zero =>
      have e0 : (((0 : Nat) : Int) - 1) = -1 := rfl
      rw [e0]
      clear e0
      rw [List.drop_zero] at HL
      go_wp2
      go_loopw [16, 17] (fun v i wr => ∃ (j : Nat) (M : List NsC), j ≤ ws.length ∧ i = iV ((j : Int) - 1) ∧ Hid (OutW wr wo.heap.size v M) ∧ Hid (nsOf M = hideW x (ws.drop j)) ∧ Hid (Below wo.heap.size wo wr)) (fun _ i _ => (intOf i + 1).toNat)
      case atStart => exact ⟨ws.length, [], Nat.le_refl _, rfl, OutW.start wo _ rfl, by show _ = _; rw [List.drop_length]; rfl, ba wo _⟩
      case round =>
        obtain ⟨j, M, hjm, rfl, HM, HML, HBz⟩ := hrel
        have hM : M.length ≤ ws.length := by have := ws_len HML.out; simp at this; omega
        obtain ⟨A2, c2, rfl⟩ := own_form HM.out.row
        obtain ⟨wz, rfl⟩ : ∃ wz : World, wz = wr := ⟨_, rfl⟩
        have HBw : Hid (Below w1.heap.size w1 wz) := HB.out.trans (HBz.out.mono HB.out.size)
        cases j with
        | succ j =>
          have e0 : (((j + 1 : Nat) : Int) - 1) = (j : Int) := by omega
          rw [e0]
          clear e0
          have hjl : j < ws.length := by omega
          obtain ⟨bW, oW, rfl, hbW, hcW⟩ := (HW1.out.below HBw.out).1.get (i := j) (by simpa using hjl)
          have e0 : wz.cell? ⟨bW, oW + j, none⟩ = some (slI ws[j]) := hcW j _ (by simp [hjl])
          clear hcW
          have hin := List.getElem_mem (l := ws) (n := j) hjl
          have hok := HW1.out.2.1 _ hin
          have hnl := HW8.out _ hin
          have HST := Lib.hid (hideW_step (d := x) hjl)
          clear hin
          have HSw : Hid (∀ w' : World, Below wz.heap.size wz w' → w'.cell? ⟨bW, oW + j, none⟩ = some (slI ws[j])) := fun w' h => (h.cell (p := ⟨bW, oW + j, none⟩) hbW).trans e0
          generalize ws[j] = wk at *
          obtain ⟨nd, An, cn⟩ := wk
          simp only at HST hok hnl
          change Hid (∀ w' : World, Below wz.heap.size wz w' → w'.cell? ⟨bW, oW + j, none⟩ = some (.slice An nd.length cn)) at HSw
          change wz.cell? ⟨bW, oW + j, none⟩ = some (.slice An nd.length cn) at e0
          have HN := Lib.hid hok
          clear hok
          have j1 : (0 : Int) ≤ (j : Int) := by omega
          have j2 : (j : Int) < (ws.length : Int) := by omega
          go_wp2
          go_loopw [18, 19] (fun v i wy => ∃ k : Nat, k ≤ nd.length ∧ i = iV k ∧ Hid (wy.ownsRow wz.heap.size 3 1 v (up x (nd.take k)).length ((up x (nd.take k)).map iV)) ∧ Hid (Below wz.heap.size wz wy) ∧ Hid (∀ n ∈ nd.take k, 0 ≤ n ∧ n ≤ 1000000)) (fun _ i _ => nd.length - (intOf i).toNat)
          case atStart => exact ⟨0, Nat.zero_le _, rfl, own_none wz _ 1 _ _ rfl (Nat.le_refl _), ba wz _, fun n hn => by simp at hn⟩
          case round =>
            obtain ⟨k, hk, rfl, HX, HBy, HA⟩ := hrel
            obtain ⟨wy, rfl⟩ : ∃ wy : World, wy = wr := ⟨_, rfl⟩
            obtain ⟨A, c, rfl⟩ := own_form HX.out
            have HBwy : Hid (Below w1.heap.size w1 wy) := HBw.out.trans (HBy.out.mono HBw.out.size)
            have d0 := HSw.out _ HBy.out
            by_cases hlk : k < nd.length
            · obtain ⟨b3, o3, rfl, hb3, hc3⟩ := (HN.out.1.below HBwy.out).get (i := k) (by simpa using hlk)
              have k4 : wy.cell? ⟨b3, o3 + k, none⟩ = some (iV nd[k]) := hc3 k _ (by simp [hlk])
              clear hc3
              have HT1 := Lib.hid (up_take x nd k hlk)
              have HA1 := Lib.hid (all_snoc hlk HA.out)
              have hmsl : (up x (nd.take k)).length = k := by rw [up_len, List.length_take]; omega
              generalize nd[k] = n at *
              generalize up x (nd.take k) = ms at *
              have hmsl' : ms.length ≤ 8 := by omega
              have HMS := Lib.hid hmsl
              clear hmsl
              have i3 : (0 : Int) ≤ (k : Int) := by omega
              have i4 : (k : Int) < (nd.length : Int) := by omega
              by_cases hn0 : n < 0
              · go_wp2
                go_ret
                exact ⟨rfl, bt HB1.out HBwy.out⟩
              by_cases hn1 : 1000000 < n
              · go_wp2
                go_ret
                exact ⟨rfl, bt HB1.out HBwy.out⟩
              have hn2 : 0 ≤ n := by omega
              have hn3 : n ≤ 1000000 := by omega
              have wx : IntKind.i64.wrap x = x := IntWalk.i64_in _ (by omega)
              have wn : IntKind.i64.wrap (n + x) = n + x := IntWalk.i64_in _ (by omega)
              go_wp2_with (at_builtin; go_must (refine wpList_app (by rfl) (.tmp 143) (.tmp 154) _ _ (by rfl) wz.heap.size 3 n0 _ 1 8 Try.underlying34 hnI ho0 ho1 ho2 (by rfl) _ ms.length (ms.map iV) (by rfl) (HX.out.alloc _) _ (by rfl) 1 ([n + x].map iV) (src_rd Try.underlying34 (Rd.new wy [iV (n + x)] 3) (by rfl) (one_i _)) (by unfold maxLen; omega) (by omega) (by have := HBy.out.size; simp; omega) ?_); intro A4 c4 w4 hown4 hgrow4 _; have HX4 := Lib.hid hown4; have HB4 := Lib.hid (app_below (HBy.out.trans ((ba wy _).mono HBy.out.size)) (Nat.le_refl _) (HX.out.alloc _) (Nat.le_refl _) hgrow4); clear hown4 hgrow4)
              go_wp2
              go_roundw
              case rel => exact ⟨k + 1, by omega, by go_num, by show World.ownsRow _ _ _ _ _ _ _; rw [HT1.out, List.map_append, List.length_append]; exact HX4.out, HB4, HA1.out hn2 hn3⟩
              case measure => simp [intOf]; omega
            · obtain rfl : k = nd.length := by omega
              rw [List.take_length] at HX HA ⊢
              have HMI := Lib.hid (up_i64 HA.out hx0 hx1)
              have hmsl : (up x nd).length = nd.length := up_len _ _
              have HST' : Hid (hideW x (ws.drop j) = nsOf M ++ [up x nd]) := by show _ = _; rw [HML.out]; exact HST.out
              generalize up x nd = ms at *
              have hms8 : ms.length ≤ 8 := by omega
              clear hmsl HST
              have HM6 := Lib.hid (HM.out.below HBy.out)
              clear e0
              go_wp2_with (at_builtin; go_must (refine wpList_app (by rfl) (.tmp 156) (.tmp 158) _ _ (by rfl) wo.heap.size 34 j0 _ 1 24 Try.underlying23 hj0 hy0 hy1 hy2 (by rfl) _ M.length (M.map slI) (by rfl) (HM6.out.row.alloc _) _ (by rfl) 1 ([(⟨ms, A, c⟩ : NsC)].map slI) (src_rd Try.underlying23 (Rd.new wy [slI ⟨ms, A, c⟩] 34) (by rfl) (one_sl _)) (by unfold maxLen; omega) (by omega) (by have := (HBz.out.trans (HBy.out.mono HBz.out.size)).size; simp; omega) ?_); intro A7 c7 w7 hown7 hgrow7 hat7; have HO7 := Lib.hid (OutW.put (x := ⟨ms, A, c⟩) (HM6.out.below (ba wy _)) ((own_nums HX.out HMI.out (by omega)).below (ba wy _)) (far_row (w7 := wy.alloc _) HX.out (own_lt HM.out.row) (ba wy _).size) hown7 hgrow7 hat7); have HB7 := Lib.hid (app_below ((HBz.out.trans (HBy.out.mono HBz.out.size)).trans ((ba wy _).mono (HBz.out.trans (HBy.out.mono HBz.out.size)).size)) (Nat.le_refl _) (HM6.out.row.alloc _) (Nat.le_refl _) hgrow7); clear hown7 hgrow7 hat7)
              go_wp2
              go_roundw
              case rel => exact ⟨j, M ++ [⟨ms, A, c⟩], by omega, by go_num, HO7, by show _ = _; rw [HST'.out, nsOf, List.map_append]; rfl, HB7⟩
              case measure => simp [intOf]
        | zero =>
          have e0 : (((0 : Nat) : Int) - 1) = -1 := rfl
          rw [e0]
          clear e0
          rw [List.drop_zero] at HML
          go_wp2_with fail
          refine (token_any s l _ HI.out (by omega)).mono ?_
          rintro e w2 ⟨rfl, hb2⟩
          have HB2 := Lib.hid (HBw.out.trans (hb2.mono HBw.out.size))
          have HL2 := Lib.hid (((HO.out.below HBz.out).below hb2).events (by omega))
          have HM2 := Lib.hid ((HM.out.below hb2).worlds (by omega))
          clear hb2 HO HM
          go_wp2_with fail
          refine (see_ok s l AE AW cE cW evs ws _ HI.out (by omega) (HE1.out.below HB2.out) (HW1.out.below HB2.out)).mono ?_
          rintro e w3 ⟨A3, c3, o, rfl, hr3, hl3, hsn3, hb3⟩
          have HB3 := Lib.hid (HB2.out.trans (hb3.mono HB2.out.size))
          have HL3 := Lib.hid (HL2.out.below hb3)
          have HM3 := Lib.hid (HM2.out.below hb3)
          have HR3 := Lib.hid hr3
          have HS3 := Lib.hid hsn3
          clear hb3 hr3 hsn3 HL2 HM2
          go_wp2_with fail
          refine (see_ok s l A1 A2 c1 c2 L M _ HI.out (by omega) HL3.out HM3.out).mono ?_
          rintro e w4 ⟨A4, c4, o4, rfl, hr4, hl4, hsn4, hb4⟩
          obtain rfl := hide_same HS3.out HL.out HML.out hsn4
          have HB4 := Lib.hid (HB3.out.trans (hb4.mono HB3.out.size))
          have HR4 := Lib.hid hr4
          have HR34 := Lib.hid (HR3.out.below hb4)
          clear hb4 hr4 hsn4 HS3
          have CS := same_any o4 o4 A3 A4 c3 c4 w4 HR34.out HR4.out hl4 hl4
          rw [show decide (o4 = o4) = true from decide_eq_true rfl] at CS
          have CS := Lib.hid CS
          go_wp2_with fail
          refine CS.out.mono ?_
          rintro e w10 ⟨rfl, hq10⟩
          have HB10 := Lib.hid (bt (bt HB1.out HB4.out) (below_dq hq10))
          clear hq10
          go_wp2
          go_ret
          exact ⟨rfl, HB10.out⟩
set_option maxHeartbeats 2000000 in
set_option maxRecDepth 100000 in
theorem hidden_any (s x : Int) (l : List UInt8) (AE AW : Option Addr) (cE cW : Nat) (evs : List EvC) (ws : List NsC) (w : World) (hs : I64 s) (hl : Len l) (hE : Events0 w AE evs) (hW : Worlds0 w AW ws) (hx0 : 0 ≤ x) (hx1 : x ≤ 65535) :
    Calls Try.prog 6 #[iV s, sV l, .slice AE evs.length cE, .slice AW ws.length cW, .int .u16 x] w fun e w' => e = .returned (.bool true) ∧ Below w.heap.size w w' := by
  by_cases h40 : l.length ≤ 40
  · cases hF : fewB evs ws
    · have CF : Hid (∀ w', Below w.heap.size w w' → Calls Try.prog 9 #[.slice AE evs.length cE, .slice AW ws.length cW] w' fun e w2 => e = .returned (.bool false) ∧ w' = w2) := fun w' hb => by
        have := few_any evs ws AE AW cE cW w' (hE.below hb) (hW.below hb)
        rwa [hF] at this
      have h40' : ¬ (40 : Int) < (l.length : Int) := by omega
      clear hF hE hW h40
      go_enter Try.func6, Try.ntmps6
      go_wp2_with fail
      refine (head_any _).mono ?_
      rintro e w1 ⟨rfl, hb1⟩
      have HB1 := Lib.hid hb1; clear hb1
      go_wp2_with fail
      refine (CF.out _ HB1.out).mono ?_
      rintro e w2 ⟨rfl, rfl⟩
      go_wp2
      go_ret
      exact ⟨rfl, HB1.out⟩
    · exact hidden_main s x l AE AW cE cW evs ws w hs h40 hE hW hF hx0 hx1
  · have h40' : (40 : Int) < (l.length : Int) := by omega
    clear h40 hE hW hs
    go_enter Try.func6, Try.ntmps6
    go_wp2_with fail
    refine (head_any _).mono ?_
    rintro e w1 ⟨rfl, hb1⟩
    have HB1 := Lib.hid hb1; clear hb1
    go_wp2
    go_ret
    exact ⟨rfl, HB1.out⟩
end Go.Proofs.Ytpmogdddngbneaa
