/-
  The walks over the reference's reader: records. (NOT BUILDING: the region at ref.go:150 runs away.)
-/
import Derived.Test.YtoaembpakmpolaaJouRef3
namespace Go.Proofs.Ytoaembpakmpolaa
open Go.RowKit Jou
attribute [local go_sem] ba_get ba_extract ba_append

theorem four_set {w : World} {bn on B : Nat} {v1 v2 v3 v4 : Value} (hB : bn ≠ B) (j : Nat) (x : Value) (h : w.cell? ⟨bn, on, none⟩ = some v1 ∧ w.cell? ⟨bn, on + 1, none⟩ = some v2 ∧ w.cell? ⟨bn, on + 2, none⟩ = some v3 ∧ w.cell? ⟨bn, on + 3, none⟩ = some v4) :
    (w.setCell ⟨B, j, none⟩ x).cell? ⟨bn, on, none⟩ = some v1 ∧ (w.setCell ⟨B, j, none⟩ x).cell? ⟨bn, on + 1, none⟩ = some v2 ∧ (w.setCell ⟨B, j, none⟩ x).cell? ⟨bn, on + 2, none⟩ = some v3 ∧ (w.setCell ⟨B, j, none⟩ x).cell? ⟨bn, on + 3, none⟩ = some v4 := by
  have hb : (w.setCell ⟨B, j, none⟩ x).heap[bn]? = w.heap[bn]? := Below.heap_setCell _ _ _ _ hB
  exact ⟨(World.cell?_of_block (a := ⟨bn, on, none⟩) hb).trans h.1, (World.cell?_of_block (a := ⟨bn, on + 1, none⟩) hb).trans h.2.1, (World.cell?_of_block (a := ⟨bn, on + 2, none⟩) hb).trans h.2.2.1, (World.cell?_of_block (a := ⟨bn, on + 3, none⟩) hb).trans h.2.2.2⟩
def RecR (p : Nat) (b : List UInt8) (st : Option (List UInt8)) (w : World) (e : Ending) (w' : World) : Prop :=
  ∃ (x : Rec) (A : Option Addr) (c : Nat) (s1 : Option (List UInt8)), e = .returned (.agg #[iV x.scanner, iV x.number, iV x.kind, iV x.time, sV x.label, .slice A x.contents.length c]) ∧ Rd w' A (x.contents.map sV) ∧ (∀ a, A = some a → w.heap.size ≤ a.block ∧ a.block < w'.heap.size) ∧ w.grownBy w' (some p) ∧ Rst w' p b s1 ∧ Step st recP x s1
theorem rcInf : (Try.prog.info? 26).map (·.size) = some 6 := by kernel_rfl
theorem Rst.row {w : World} {p : Nat} {b : List UInt8} {st : Option (List UInt8)} (h : Rst w p b st) {B : Nat} (hB : p < B) (cs : Array Value) : Rst (w.setRow B cs) p b st :=
  h.grown (r := B) ⟨rfl, rfl, rfl, by simp, fun k hk hr => setRow_other _ _ _ _ (by simpa using hr)⟩ hB
set_option maxHeartbeats 8000000 in
set_option maxRecDepth 100000 in
theorem frec_any (p : Nat) (b : List UInt8) (st : Option (List UInt8)) (w : World) (hR : Rst w p b st) :
    Calls Try.prog 33 #[.pointer (some ⟨p, 0, none⟩)] w (RecR p b st w) := by
  obtain ⟨i0, hi0, hz0, hz1, hz2⟩ := info_parts strInfo
  have hpl := hR.lt
  have HR := Lib.hid hR; clear hR
  have HZ : Hid ((w.alloc (.cells #[iV 0, iV 0, iV 0, iV 0, .string ⟨#[]⟩, .slice none 0 0] 26)).heap[w.heap.size]? = some (.cells #[iV 0, iV 0, iV 0, iV 0, .string ⟨#[]⟩, .slice none 0 0] 26 (0, 0))) := heap_alloc_new _ _
  go_enter Try.func33, Try.ntmps33
  go_wp2_with fail
  refine (fnums_any p b st 4 _ (HR.out.alloc _) (by omega)).mono ?_
  rintro e w1 ⟨ns, A, c, rfl, hnl, hni, ho, hg, hs, hv⟩
  obtain ⟨n1, n2, n3, n4, rfl⟩ := four hnl
  have HG1 := Lib.hid (gt (g_alloc (gr w _) _) hg)
  have HZ1 := Lib.hid ((hg.block _ (block_lt HZ.out) (by simp; omega)).trans HZ.out)
  have HP1 := Lib.hid (Step.mk' hv)
  have HS1 := Lib.hid hs
  generalize (st.bind (numsP 4)).map (·.2) = s1 at *
  have hz1' := block_lt HZ1.out
  obtain ⟨bn, on, hA, hbn, hcn⟩ := (own_rd ho).get (i := 0) (by simp)
  have hfar := own_at ho _ hA
  simp only at hfar
  subst hA
  have k0 : w1.cell? ⟨bn, on, none⟩ = some (iV n1) := by simpa using hcn 0 _ rfl
  have k1 : w1.cell? ⟨bn, on + 1, none⟩ = some (iV n2) := hcn 1 _ rfl
  have k2 : w1.cell? ⟨bn, on + 2, none⟩ = some (iV n3) := hcn 2 _ rfl
  have k3 : w1.cell? ⟨bn, on + 3, none⟩ = some (iV n4) := hcn 3 _ rfl
  have hfb : bn ≠ w1.heap.size := by omega
  have HXn : Hid (∀ w3 : World, (w1.alloc (.cells #[iV 0, iV 0, iV 0, iV 0, .string ⟨#[]⟩, .slice none 0 0] 26)).drew.grownBy w3 (some p) → w3.heap[w1.heap.size]? = some (.cells #[iV 0, iV 0, iV 0, iV 0, .string ⟨#[]⟩, .slice none 0 0] 26 (0, 0))) := fun w3 hg => (hg.block w1.heap.size (by show _ < (World.alloc _ _).heap.size; simp) (by simp; omega)).trans (heap_alloc_new w1 (.cells #[iV 0, iV 0, iV 0, iV 0, .string ⟨#[]⟩, .slice none 0 0] 26))
  have hfz : w.heap.size < bn := by have := hfar.1; simp at this; omega
  have HSw : Hid (∀ w', w1.grownBy w' (some p) → w'.cell? ⟨bn, on, none⟩ = some (iV n1) ∧ w'.cell? ⟨bn, on + 1, none⟩ = some (iV n2) ∧ w'.cell? ⟨bn, on + 2, none⟩ = some (iV n3) ∧ w'.cell? ⟨bn, on + 3, none⟩ = some (iV n4)) := fun w' h => by
    have hb : w'.heap[bn]? = w1.heap[bn]? := h.block bn hbn (by simp; omega)
    exact ⟨(World.cell?_of_block (a := ⟨bn, on, none⟩) hb).trans k0, (World.cell?_of_block (a := ⟨bn, on + 1, none⟩) hb).trans k1, (World.cell?_of_block (a := ⟨bn, on + 2, none⟩) hb).trans k2, (World.cell?_of_block (a := ⟨bn, on + 3, none⟩) hb).trans k3⟩
  clear hg hs hv hnl hni ho hcn
  go_wp2
  refine wp_region_noPanic ?_
  refine wp_region_held_drew (S := (fun w' => w'.cell? ⟨bn, on, none⟩ = some (iV n1) ∧ w'.cell? ⟨bn, on + 1, none⟩ = some (iV n2) ∧ w'.cell? ⟨bn, on + 2, none⟩ = some (iV n3) ∧ w'.cell? ⟨bn, on + 3, none⟩ = some (iV n4))) (by kernel_rfl) (HSw.out _ (g_drewN (gr w1 _) 1)) (fun hHeld => ?_)
  refine wpAnyH_take (i := 0) (v := ?_) rfl (by kernel_rfl) (by kernel_rfl) (by kernel_rfl) (fun _ _ _ h => h) (Or.inl ⟨by kernel_rfl, ?_⟩) (by assumption) ?_
  rotate_left
  · (intro w hSw; (try dsimp only at hSw); go_simp; (try with_reducible rfl))
  
  refine wpAnyH_take (i := 1) (v := ?_) rfl (by kernel_rfl) (by kernel_rfl) (by kernel_rfl) (fun _ _ _ h => h) (Or.inl ⟨by kernel_rfl, ?_⟩) (by assumption) ?_
  rotate_left
  · (intro w hSw; (try dsimp only at hSw); go_simp; (try with_reducible rfl))
  
  refine wpAnyH_take (i := 2) (v := ?_) rfl (by kernel_rfl) (by kernel_rfl) (by kernel_rfl) (fun _ _ _ h => h) (Or.inl ⟨by kernel_rfl, ?_⟩) (by assumption) ?_
  rotate_left
  · (intro w hSw; (try dsimp only at hSw); go_simp; (try with_reducible rfl))
  
  refine wpAnyH_take (i := 3) (v := ?_) rfl (by kernel_rfl) (by kernel_rfl) (by kernel_rfl) (fun _ _ _ h => h) (Or.inl ⟨by kernel_rfl, ?_⟩) (by assumption) ?_
  rotate_left
  · (intro w hSw; (try dsimp only at hSw); go_simp; (try with_reducible rfl))
  
  refine wpAnyH_take (i := 4) (v := ?_) rfl (by kernel_rfl) (by kernel_rfl) (by kernel_rfl) (fun _ _ _ h => h) (Or.inl ⟨by kernel_rfl, ?_⟩) (by assumption) ?_
  rotate_left
  · (intro w hSw; (try dsimp only at hSw); go_simp; (try with_reducible rfl))
  
  refine wpAnyH_take (i := 5) (v := ?_) rfl (by kernel_rfl) (by kernel_rfl) (by kernel_rfl) (fun _ _ _ h => h) (Or.inl ⟨by kernel_rfl, ?_⟩) (by assumption) ?_
  rotate_left
  · (intro w hSw; (try dsimp only at hSw); go_simp; (try with_reducible rfl))
  
  refine wpAnyH_take (i := 6) (v := ?_) rfl (by kernel_rfl) (by kernel_rfl) (by kernel_rfl) (fun _ _ _ h => h) (Or.inl ⟨by kernel_rfl, ?_⟩) (by assumption) ?_
  rotate_left
  · (intro w hSw; (try dsimp only at hSw); go_simp; (try with_reducible rfl))
  
  refine wpAnyH_take (i := 7) (v := ?_) rfl (by kernel_rfl) (by kernel_rfl) (by kernel_rfl) (fun _ _ _ h => h) (Or.inl ⟨by kernel_rfl, ?_⟩) (by assumption) ?_
  rotate_left
  · (intro w hSw; (try dsimp only at hSw); go_simp; (try with_reducible rfl))
  
  refine wpAnyH_take (i := 8) (v := ?_) rfl (by kernel_rfl) (by kernel_rfl) (by kernel_rfl) (fun _ _ _ h => h) (Or.inl ⟨by kernel_rfl, ?_⟩) (by assumption) ?_
  rotate_left
  · (intro w hSw; (try dsimp only at hSw); go_simp; (try with_reducible rfl))
  
  refine wpAnyH_take (i := 9) (v := ?_) rfl (by kernel_rfl) (by kernel_rfl) (by kernel_rfl) (fun _ _ _ h => h) (Or.inl ⟨by kernel_rfl, ?_⟩) (by assumption) ?_
  rotate_left
  · (intro w hSw; (try dsimp only at hSw); go_simp; (try with_reducible rfl))
  
  refine wpAnyH_take (i := 10) (v := ?_) rfl (by kernel_rfl) (by kernel_rfl) (by kernel_rfl) (fun _ _ _ h => h) (Or.inl ⟨by kernel_rfl, ?_⟩) (by assumption) ?_
  rotate_left
  · (intro w hSw; (try dsimp only at hSw); go_simp; (try with_reducible rfl))
  
  refine wpAnyH_take (i := 11) (v := ?_) rfl (by kernel_rfl) (by kernel_rfl) (by kernel_rfl) (fun _ _ _ h => h) (Or.inl ⟨by kernel_rfl, ?_⟩) (by assumption) ?_
  rotate_left
  · (intro w hSw; (try dsimp only at hSw); go_simp; (try with_reducible rfl))
  
  refine wpAnyH_take (i := 12) (v := ?_) rfl (by kernel_rfl) (by kernel_rfl) (by kernel_rfl) (fun _ _ _ h => h) (Or.inl ⟨by kernel_rfl, ?_⟩) (by assumption) ?_
  rotate_left
  · (intro w hSw; (try dsimp only at hSw); go_simp; (try with_reducible rfl))
  
  refine wpAnyH_ready (rs := [13, 15]) (by kernel_rfl) (by simp) ?_
  refine AllReadyH.cons rfl (fun K hK => ?brA) (AllReadyH.cons rfl (fun K hK => ?brB) AllReadyH.nil)
  case' brA =>
    go_simp
    refine (ftxt_any p b s1 _ (Rst.drew HS1.out)).mono ?_
    rintro e w3 ⟨s, rfl, hsl, hg, hs, hv⟩
    have HG3 := Lib.hid hg; have HS3 := Lib.hid hs; have HV3 := Lib.hid hv; clear hg hs hv
    go_wp2_with fail
    refine hK.out _ _ (HSw.out _ (g_undrew HG3.out)) (fun hHeld => ?_)
    clear hK K
    refine wpAnyH_take (i := 14) (v := ?_) rfl (by kernel_rfl) (by kernel_rfl) (by kernel_rfl) (fun _ _ _ h => h) (Or.inl ⟨by kernel_rfl, ?_⟩) (by assumption) ?_
    rotate_left
    · (intro w hSw; (try dsimp only at hSw); go_simp; (try with_reducible rfl))
    
    refine wpAnyH_ready (rs := [15]) (by kernel_rfl) (by simp) ?_
    refine AllReadyH.cons rfl (fun K hK => ?_) AllReadyH.nil
    go_simp
    refine hK.out _ _ (HSw.out _ (g_alloc (g_undrew HG3.out) _)) (fun hHeld => ?_)
    clear hK K
    refine wpAnyH_ready (rs := [16]) (by kernel_rfl) (by simp) ?_
    refine AllReadyH.cons rfl (fun K hK => ?_) AllReadyH.nil
    go_simp
    refine hK.out _ _ (HSw.out _ (g_alloc (g_undrew HG3.out) _)) (fun hHeld => ?_)
    clear hK K
    refine wpAnyH_done (by kernel_rfl) ?_ _
    refine NoPanic.normal ?_
    have HB4 : Hid ((w3.alloc (.cells #[iV n1, iV n2, iV n3, iV n4, sV s, .slice none 0 0] 26)).heap[w3.heap.size]? = some (.cells #[iV n1, iV n2, iV n3, iV n4, sV s, .slice none 0 0] 26 (0, 0))) := heap_alloc_new _ _
    have HG4 : Hid (w.grownBy (w3.alloc (.cells #[iV n1, iV n2, iV n3, iV n4, sV s, .slice none 0 0] 26)) (some p)) := g_alloc (gt HG1.out (g_undrew HG3.out)) _
    have HS4 : Hid (Rst (w3.alloc (.cells #[iV n1, iV n2, iV n3, iV n4, sV s, .slice none 0 0] 26)) p b ((s1.bind txtP).map (·.2))) := HS3.out.alloc _
    have HZ4 : Hid ((w3.alloc (.cells #[iV n1, iV n2, iV n3, iV n4, sV s, .slice none 0 0] 26)).heap[w.heap.size]? = some (.cells #[iV 0, iV 0, iV 0, iV 0, .string ⟨#[]⟩, .slice none 0 0] 26 (0, 0))) := (Below.heap_alloc _ _ _ (Nat.lt_of_lt_of_le hz1' HG3.out.size)).trans ((HG3.out.block _ hz1' (by simp; omega)).trans HZ1.out)
    have hX : w.heap.size < w3.heap.size := Nat.lt_of_lt_of_le hz1' HG3.out.size
    clear HG3 HS3
    generalize (w3.alloc (.cells #[iV n1, iV n2, iV n3, iV n4, sV s, .slice none 0 0] 26)) = W4 at *
    generalize w3.heap.size = X at *
  case' brB =>
    go_simp
    refine hK.out _ _ (HSw.out _ (g_drew (g_alloc (gr w1 _) _))) (fun hHeld => ?_)
    clear hK K
    refine wpAnyH_ready (rs := [13]) (by kernel_rfl) (by simp) ?_
    refine AllReadyH.cons rfl (fun K hK => ?_) AllReadyH.nil
    go_simp
    refine (ftxt_any p b s1 _ (Rst.drew (HS1.out.alloc _))).mono ?_
    rintro e w3 ⟨s, rfl, hsl, hg, hs, hv⟩
    have HX3 := Lib.hid (HXn.out w3 hg)
    have HG3 := Lib.hid hg; have HS3 := Lib.hid hs; have HV3 := Lib.hid hv; clear hg hs hv
    go_wp2_with fail
    refine hK.out _ _ (HSw.out _ (gt (g_alloc (gr w1 _) _) (g_undrew HG3.out))) (fun hHeld => ?_)
    clear hK K
    refine wpAnyH_take (i := 14) (v := ?_) rfl (by kernel_rfl) (by kernel_rfl) (by kernel_rfl) (fun _ _ _ h => h) (Or.inl ⟨by kernel_rfl, ?_⟩) (by assumption) ?_
    rotate_left
    · (intro w hSw; (try dsimp only at hSw); go_simp; (try with_reducible rfl))
    
    refine wpAnyH_ready (rs := [16]) (by kernel_rfl) (by simp) ?_
    refine AllReadyH.cons rfl (fun K hK => ?_) AllReadyH.nil
    rw [if_pos (by kernel_rfl)]
    refine wp_store_row 26 (.tmp 4) (.tmp 23) (by rfl) w1.heap.size #[iV n1, iV n2, iV n3, iV n4, sV s, .slice none 0 0] (by rfl) (by rfl) 26 #[iV 0, iV 0, iV 0, iV 0, .string ⟨#[]⟩, .slice none 0 0] HX3.out rcInf (by rfl) (by simp [Value.oneCell']) (hK.out _ _ (HSw.out _ (g_row (gt (g_alloc (gr w1 _) _) (g_undrew HG3.out)) (Nat.le_refl _) _)) (fun hHeld => ?_))
    clear hK K
    refine wpAnyH_done (by kernel_rfl) ?_ _
    refine NoPanic.normal ?_
    have HB4 : Hid ((w3.setRow w1.heap.size #[iV n1, iV n2, iV n3, iV n4, sV s, .slice none 0 0]).heap[w1.heap.size]? = some (.cells #[iV n1, iV n2, iV n3, iV n4, sV s, .slice none 0 0] 26 (0, 0))) := setRow_heap _ _ _ _ _ _ HX3.out
    have HG4 : Hid (w.grownBy (w3.setRow w1.heap.size #[iV n1, iV n2, iV n3, iV n4, sV s, .slice none 0 0]) (some p)) := g_row (gt HG1.out (gt (g_alloc (gr w1 _) _) (g_undrew HG3.out))) HG1.out.size _
    have HS4 : Hid (Rst (w3.setRow w1.heap.size #[iV n1, iV n2, iV n3, iV n4, sV s, .slice none 0 0]) p b ((s1.bind txtP).map (·.2))) := HS3.out.row (by omega) _
    have HZ4 : Hid ((w3.setRow w1.heap.size #[iV n1, iV n2, iV n3, iV n4, sV s, .slice none 0 0]).heap[w.heap.size]? = some (.cells #[iV 0, iV 0, iV 0, iV 0, .string ⟨#[]⟩, .slice none 0 0] 26 (0, 0))) := (setRow_other _ _ _ _ (by omega)).trans (((gt (g_alloc (gr w1 _) _) (g_undrew HG3.out)).block _ hz1' (by simp; omega)).trans HZ1.out)
    have hX : w.heap.size < w1.heap.size := hz1'
    clear HG3 HS3 HX3
    generalize (w3.setRow w1.heap.size #[iV n1, iV n2, iV n3, iV n4, sV s, .slice none 0 0]) = W4 at *
    generalize w1.heap.size = X at *
  all_goals
    have HP2 := Lib.hid (Step.mk' HV3.out)
    generalize (s1.bind txtP).map (·.2) = s2 at *
    go_wp2_with fail
    refine (flen_any p b _ _ HS4.out).mono ?_
    rintro e w5 ⟨m0, rfl, ⟨hn1, hn2⟩, hg, hs, hv⟩
    obtain ⟨n, rfl⟩ := Int.eq_ofNat_of_zero_le hn1
    have hn3 : n ≤ 65535 := by omega
    have HP3 := Lib.hid (Step.mk' hv)
    have hXl := block_lt HB4.out
    have HB5 := Lib.hid ((hg.block _ hXl (by simp; omega)).trans HB4.out)
    have HZ5 := Lib.hid ((hg.block _ (Nat.lt_trans hX hXl) (by simp; omega)).trans HZ4.out)
    have HG5 := Lib.hid (gt HG4.out hg)
    have HS5 := Lib.hid hs
    clear hg hs hv hn1 hn2 HB4 HZ4 HG4 HS4 HV3 k0 k1 k2 k3 HSw HXn HG1 HZ1 HS1 hbn hfar hfb hfz hz1'
    generalize (s2.bind lenI).map (·.2) = s3 at *
    go_wp2
    go_loopg [6] n (fun g i wr => ∃ (k : Nat) (ss : List (List UInt8)) (v : Value) (s4 : Option (List UInt8)), k + g = n ∧ i = iV k ∧ ss.length ≤ k ∧ k ≤ ss.length ∧ Hid (wr.heap[X]? = some (.cells #[iV n1, iV n2, iV n3, iV n4, sV s, v] 26 (0, 0))) ∧ Hid (wr.ownsRow (X + 1) 9 1 v ss.length (ss.map sV)) ∧ Hid (Rst wr p b s4) ∧ Hid (Step s3 (txtsP k) ss s4) ∧ Hid (w.grownBy wr (some p)) ∧ Hid (wr.heap[w.heap.size]? = some (.cells #[iV 0, iV 0, iV 0, iV 0, .string ⟨#[]⟩, .slice none 0 0] 26 (0, 0))))
    case atStart =>
      exact ⟨0, [], _, s3, by omega, rfl, Nat.le_refl _, Nat.le_refl _, HB5, World.ownsRow_nil _ _ _ _, HS5, Step.ret _ _, HG5, HZ5⟩
    case round =>
      obtain ⟨k, ss, v, s4, hkg, rfl, hk1, hk2, HB, HO, HS, HP, HG, HZ⟩ := hrel
      obtain ⟨wo, rfl⟩ : ∃ wo : World, wo = wr := ⟨_, rfl⟩
      obtain ⟨A2, c2, rfl⟩ := own_form HO.out
      have hb := HS.out.bad
      have hXw := block_lt HB.out
      by_cases hlk : k < n
      · cases s4 with
        | none =>
          change wo.cell? ⟨p, 2, none⟩ = some (.bool true) at hb
          have HF : Hid (Step s3 (txtsP n) ss none) := txtsP_more HP.out (Nat.le_of_lt hlk) ss
          have c0_ : wo.cell? ⟨X, 0, none⟩ = some (iV n1) := cell_of_row wo _ 0 _ _ _ HB.out
          have z0 : wo.cell? ⟨w.heap.size, 0, none⟩ = some (iV 0) := cell_of_row wo _ 0 _ _ _ HZ.out
          have y0 : wo.frozen? ⟨w.heap.size, 0, none⟩ = false := frozen_row HZ.out 0
          have c1_ : wo.cell? ⟨X, 1, none⟩ = some (iV n2) := cell_of_row wo _ 1 _ _ _ HB.out
          have z1 : wo.cell? ⟨w.heap.size, 1, none⟩ = some (iV 0) := cell_of_row wo _ 1 _ _ _ HZ.out
          have y1 : wo.frozen? ⟨w.heap.size, 1, none⟩ = false := frozen_row HZ.out 1
          have c2_ : wo.cell? ⟨X, 2, none⟩ = some (iV n3) := cell_of_row wo _ 2 _ _ _ HB.out
          have z2 : wo.cell? ⟨w.heap.size, 2, none⟩ = some (iV 0) := cell_of_row wo _ 2 _ _ _ HZ.out
          have y2 : wo.frozen? ⟨w.heap.size, 2, none⟩ = false := frozen_row HZ.out 2
          have c3_ : wo.cell? ⟨X, 3, none⟩ = some (iV n4) := cell_of_row wo _ 3 _ _ _ HB.out
          have z3 : wo.cell? ⟨w.heap.size, 3, none⟩ = some (iV 0) := cell_of_row wo _ 3 _ _ _ HZ.out
          have y3 : wo.frozen? ⟨w.heap.size, 3, none⟩ = false := frozen_row HZ.out 3
          have c4_ : wo.cell? ⟨X, 4, none⟩ = some (sV s) := cell_of_row wo _ 4 _ _ _ HB.out
          have z4 : wo.cell? ⟨w.heap.size, 4, none⟩ = some (.string ⟨#[]⟩) := cell_of_row wo _ 4 _ _ _ HZ.out
          have y4 : wo.frozen? ⟨w.heap.size, 4, none⟩ = false := frozen_row HZ.out 4
          have c5_ : wo.cell? ⟨X, 5, none⟩ = some (.slice A2 ss.length c2) := cell_of_row wo _ 5 _ _ _ HB.out
          have z5 : wo.cell? ⟨w.heap.size, 5, none⟩ = some (.slice none 0 0) := cell_of_row wo _ 5 _ _ _ HZ.out
          have y5 : wo.frozen? ⟨w.heap.size, 5, none⟩ = false := frozen_row HZ.out 5
          have HNE : Hid (∀ a, A2 = some a → a.block ≠ w.heap.size) := fun a ha => by have := own_at HO.out a ha; omega
          have HZX : Hid (w.heap.size ≤ X) := Nat.le_of_lt hX
          go_wp2
          refine bodyPost_ret (v := .agg #[iV n1, iV n2, iV n3, iV n4, sV s, .slice A2 ss.length c2]) (by simp [results, Try.results33, go_sem, z0, z1, z2, z3, z4, z5]) rfl ?_
          refine ⟨⟨n1, n2, n3, n4, s, ss⟩, A2, c2, none, rfl, (rd_set (rd_set (rd_set (rd_set (rd_set (rd_set (own_rd HO.out) (B := w.heap.size) HNE.out 0 (iV n1)) (B := w.heap.size) HNE.out 1 (iV n2)) (B := w.heap.size) HNE.out 2 (iV n3)) (B := w.heap.size) HNE.out 3 (iV n4)) (B := w.heap.size) HNE.out 4 (sV s)) (B := w.heap.size) HNE.out 5 (.slice A2 ss.length c2)), fun a ha => ?_, (g_new (g_new (g_new (g_new (g_new (g_new HG.out (B := w.heap.size) (Nat.le_refl _) 0 (iV n1)) (B := w.heap.size) (Nat.le_refl _) 1 (iV n2)) (B := w.heap.size) (Nat.le_refl _) 2 (iV n3)) (B := w.heap.size) (Nat.le_refl _) 3 (iV n4)) (B := w.heap.size) (Nat.le_refl _) 4 (sV s)) (B := w.heap.size) (Nat.le_refl _) 5 (.slice A2 ss.length c2)), (Rst.set (Rst.set (Rst.set (Rst.set (Rst.set (Rst.set HS.out (B := w.heap.size) hpl 0 (iV n1)) (B := w.heap.size) hpl 1 (iV n2)) (B := w.heap.size) hpl 2 (iV n3)) (B := w.heap.size) hpl 3 (iV n4)) (B := w.heap.size) hpl 4 (sV s)) (B := w.heap.size) hpl 5 (.slice A2 ss.length c2)), ?_⟩
          · have := own_at HO.out a ha
            simp [World.setCell]
            omega
          · rw [recP_and]
            exact HP1.out.and (HP2.out.and (HP3.out.and (HF.out.and (Step.ret _ _))))
        | some l4 =>
          change wo.cell? ⟨p, 2, none⟩ = some (.bool false) at hb
          have c5_ : wo.cell? ⟨X, 5, none⟩ = some (.slice A2 ss.length c2) := cell_of_row wo _ 5 _ _ _ HB.out
          have f5_ : wo.frozen? ⟨X, 5, none⟩ = false := frozen_row HB.out 5
          have hpX : p < X := Nat.lt_trans hpl hX
          obtain ⟨g1, rfl⟩ : ∃ g1, gk = g1 + 1 := ⟨gk - 1, by omega⟩
          go_wp2
          go_region_law (first
            | (go_simp; go_at_call 31; refine (ftxt_any p b (some l4) _ (Rst.drew HS.out)).mono ?_; rintro e w7 ⟨s7, rfl, hs7, hg, hs, hv⟩; have HG7 : Hid (wo.grownBy w7 (some p)) := g_undrew hg; have HS7 := Lib.hid hs; have HP7 := Lib.hid (txts_step HP.out (Step.mk' hv)); clear hg hs hv; have hXl7 : X < w7.heap.size := Nat.lt_of_lt_of_le hXw HG7.out.size; have a7 : ∀ o, (w7.alloc o).cell? ⟨X, 5, none⟩ = w7.cell? ⟨X, 5, none⟩ := fun o => World.cell?_alloc_past _ _ _ hXl7; have c7 : w7.cell? ⟨X, 5, none⟩ = some (.slice A2 ss.length c2) := (World.cell?_of_block (a := ⟨X, 5, none⟩) (HG7.out.block _ hXw (by simp; omega))).trans c5_; have f7 : w7.frozen? ⟨X, 5, none⟩ = false := (World.frozen?_of_block (a := ⟨X, 5, none⟩) (HG7.out.block _ hXw (by simp; omega))).trans f5_)
            | (refine step_app (by rfl) _ _ _ _ (by rfl) (X + 1) 9 i0 _ 1 16 Try.underlying24 hi0 hz0 hz1 hz2 (by rfl) _ ss.length _ (by rfl) ((own_g HO.out HG7.out (by omega)).alloc _) _ (by rfl) 1 [sV s7] (src_rd Try.underlying24 (Rd.new w7 [sV s7] _) rfl (by simp [Value.oneCell'])) (by unfold maxLen; omega) (by omega) (by have := HG7.out.size; simp; omega) ?_; intro A8 c8 w8 hown8 hgrow8 hat8; have HB8 : Hid (w8.heap[X]? = w7.heap[X]?) := block_app (own_g HO.out HG7.out (by omega)) hgrow8 (by omega) (Nat.lt_of_lt_of_le hXw HG7.out.size); have c9 : w8.cell? ⟨X, 5, none⟩ = some (.slice A2 ss.length c2) := (World.cell?_of_block (a := ⟨X, 5, none⟩) HB8.out).trans c7; have f9 : w8.frozen? ⟨X, 5, none⟩ = false := (World.frozen?_of_block (a := ⟨X, 5, none⟩) HB8.out).trans f7; have HG8 := Lib.hid hgrow8; clear hgrow8; have HO8 := Lib.hid hown8; clear hown8; clear hat8))
          all_goals
            clear c5_ f5_ c7 f7
            go_wp2
            go_roundg g1
            case measure => omega
            case rel =>
              have hown7 := (own_g HO.out HG7.out (by omega)).alloc (Obj.cells #[sV s7] 9)
              have hsz7 := HG7.out.size
              refine ⟨k + 1, ss ++ [s7], .slice A8 (ss.length + 1) c8, _, by omega, by go_num, by simp; omega, by simp; omega, ?_, ?_, ((HS7.out.alloc _).app hown7 HG8.out (by omega)).set hpX _ _, HP7, g_new (g_own (g_alloc (gt HG.out HG7.out) _) hown7 HG8.out (by omega)) (by omega) _ _, ?_⟩
              · exact row_set (HB8.out.trans ((HG7.out.block _ hXw (by simp; omega)).trans HB.out)) _ _
              · have := own_set HO8.out (B := X) (by omega) 5 (.slice A8 (ss.length + 1) c8)
                show World.ownsRow _ _ _ _ _ _ _
                simpa using this
              · exact row_other ((block_app (own_g HO.out HG7.out (by omega)) HG8.out (by omega) (by omega)).trans ((HG7.out.block _ (by omega) (by simp; omega)).trans HZ.out)) (by omega) _ _
      · obtain rfl : k = n := by omega
        have HF := HP
        have c0_ : wo.cell? ⟨X, 0, none⟩ = some (iV n1) := cell_of_row wo _ 0 _ _ _ HB.out
        have z0 : wo.cell? ⟨w.heap.size, 0, none⟩ = some (iV 0) := cell_of_row wo _ 0 _ _ _ HZ.out
        have y0 : wo.frozen? ⟨w.heap.size, 0, none⟩ = false := frozen_row HZ.out 0
        have c1_ : wo.cell? ⟨X, 1, none⟩ = some (iV n2) := cell_of_row wo _ 1 _ _ _ HB.out
        have z1 : wo.cell? ⟨w.heap.size, 1, none⟩ = some (iV 0) := cell_of_row wo _ 1 _ _ _ HZ.out
        have y1 : wo.frozen? ⟨w.heap.size, 1, none⟩ = false := frozen_row HZ.out 1
        have c2_ : wo.cell? ⟨X, 2, none⟩ = some (iV n3) := cell_of_row wo _ 2 _ _ _ HB.out
        have z2 : wo.cell? ⟨w.heap.size, 2, none⟩ = some (iV 0) := cell_of_row wo _ 2 _ _ _ HZ.out
        have y2 : wo.frozen? ⟨w.heap.size, 2, none⟩ = false := frozen_row HZ.out 2
        have c3_ : wo.cell? ⟨X, 3, none⟩ = some (iV n4) := cell_of_row wo _ 3 _ _ _ HB.out
        have z3 : wo.cell? ⟨w.heap.size, 3, none⟩ = some (iV 0) := cell_of_row wo _ 3 _ _ _ HZ.out
        have y3 : wo.frozen? ⟨w.heap.size, 3, none⟩ = false := frozen_row HZ.out 3
        have c4_ : wo.cell? ⟨X, 4, none⟩ = some (sV s) := cell_of_row wo _ 4 _ _ _ HB.out
        have z4 : wo.cell? ⟨w.heap.size, 4, none⟩ = some (.string ⟨#[]⟩) := cell_of_row wo _ 4 _ _ _ HZ.out
        have y4 : wo.frozen? ⟨w.heap.size, 4, none⟩ = false := frozen_row HZ.out 4
        have c5_ : wo.cell? ⟨X, 5, none⟩ = some (.slice A2 ss.length c2) := cell_of_row wo _ 5 _ _ _ HB.out
        have z5 : wo.cell? ⟨w.heap.size, 5, none⟩ = some (.slice none 0 0) := cell_of_row wo _ 5 _ _ _ HZ.out
        have y5 : wo.frozen? ⟨w.heap.size, 5, none⟩ = false := frozen_row HZ.out 5
        have HNE : Hid (∀ a, A2 = some a → a.block ≠ w.heap.size) := fun a ha => by have := own_at HO.out a ha; omega
        have HZX : Hid (w.heap.size ≤ X) := Nat.le_of_lt hX
        go_wp2
        refine bodyPost_ret (v := .agg #[iV n1, iV n2, iV n3, iV n4, sV s, .slice A2 ss.length c2]) (by simp [results, Try.results33, go_sem, z0, z1, z2, z3, z4, z5]) rfl ?_
        refine ⟨⟨n1, n2, n3, n4, s, ss⟩, A2, c2, s4, rfl, (rd_set (rd_set (rd_set (rd_set (rd_set (rd_set (own_rd HO.out) (B := w.heap.size) HNE.out 0 (iV n1)) (B := w.heap.size) HNE.out 1 (iV n2)) (B := w.heap.size) HNE.out 2 (iV n3)) (B := w.heap.size) HNE.out 3 (iV n4)) (B := w.heap.size) HNE.out 4 (sV s)) (B := w.heap.size) HNE.out 5 (.slice A2 ss.length c2)), fun a ha => ?_, (g_new (g_new (g_new (g_new (g_new (g_new HG.out (B := w.heap.size) (Nat.le_refl _) 0 (iV n1)) (B := w.heap.size) (Nat.le_refl _) 1 (iV n2)) (B := w.heap.size) (Nat.le_refl _) 2 (iV n3)) (B := w.heap.size) (Nat.le_refl _) 3 (iV n4)) (B := w.heap.size) (Nat.le_refl _) 4 (sV s)) (B := w.heap.size) (Nat.le_refl _) 5 (.slice A2 ss.length c2)), (Rst.set (Rst.set (Rst.set (Rst.set (Rst.set (Rst.set HS.out (B := w.heap.size) hpl 0 (iV n1)) (B := w.heap.size) hpl 1 (iV n2)) (B := w.heap.size) hpl 2 (iV n3)) (B := w.heap.size) hpl 3 (iV n4)) (B := w.heap.size) hpl 4 (sV s)) (B := w.heap.size) hpl 5 (.slice A2 ss.length c2)), ?_⟩
        · have := own_at HO.out a ha
          simp [World.setCell]
          omega
        · rw [recP_and]
          exact HP1.out.and (HP2.out.and (HP3.out.and (HF.out.and (Step.ret _ _))))
end Go.Proofs.Ytoaembpakmpolaa
