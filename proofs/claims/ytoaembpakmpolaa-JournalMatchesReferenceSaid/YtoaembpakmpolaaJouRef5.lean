/-
  The walks over the reference's reader: papers.
-/
import Derived.Test.YtoaembpakmpolaaJouRef4
namespace Go.Proofs.Ytoaembpakmpolaa
open Go.RowKit Jou
attribute [local go_sem] ba_get ba_extract ba_append

theorem paperP_and : paperP = andP txtP fun s => andP (numsP 7) fun a => andP txtP fun t => andP numP fun ix => andP lenI fun n => andP (numsP n.toNat) fun c => retP ⟨s, a.getD 0 0, a.getD 1 0, a.getD 2 0, a.getD 3 0, a.getD 4 0, a.getD 5 0, a.getD 6 0, t, ix, c⟩ := by
  funext l
  simp only [paperP, andP, retP, numsP, lenI, Option.bind_eq_bind]
  cases txtP l with
  | none => rfl
  | some x1 =>
    obtain ⟨x1, l1⟩ := x1
    simp only [Option.bind_some]
    cases numP l1 with
    | none => rfl
    | some x2 =>
      obtain ⟨x2, l2⟩ := x2
      simp only [Option.bind_some]
      cases numP l2 with
      | none => rfl
      | some x3 =>
        obtain ⟨x3, l3⟩ := x3
        simp only [Option.bind_some]
        cases numP l3 with
        | none => rfl
        | some x4 =>
          obtain ⟨x4, l4⟩ := x4
          simp only [Option.bind_some]
          cases numP l4 with
          | none => rfl
          | some x5 =>
            obtain ⟨x5, l5⟩ := x5
            simp only [Option.bind_some]
            cases numP l5 with
            | none => rfl
            | some x6 =>
              obtain ⟨x6, l6⟩ := x6
              simp only [Option.bind_some]
              cases numP l6 with
              | none => rfl
              | some x7 =>
                obtain ⟨x7, l7⟩ := x7
                simp only [Option.bind_some]
                cases numP l7 with
                | none => rfl
                | some x8 =>
                  obtain ⟨x8, l8⟩ := x8
                  simp only [Option.bind_some]
                  cases txtP l8 with
                  | none => rfl
                  | some x9 =>
                    obtain ⟨x9, l9⟩ := x9
                    simp only [Option.bind_some]
                    cases numP l9 with
                    | none => rfl
                    | some x10 =>
                      obtain ⟨x10, l10⟩ := x10
                      simp only [Option.bind_some]
                      cases lenP l10 with
                      | none => rfl
                      | some y =>
                        obtain ⟨y, m⟩ := y
                        simp only [Option.bind_some, Option.map_some, Int.toNat_natCast]
                        cases numsP y m <;> rfl
def PaperR (p : Nat) (b : List UInt8) (st : Option (List UInt8)) (w : World) (e : Ending) (w' : World) : Prop :=
  ∃ (x : Paper) (A : Option Addr) (c : Nat) (s1 : Option (List UInt8)), e = .returned (.agg (paperCells x A c)) ∧ Rd w' A (x.path.map iV) ∧ (∀ a, A = some a → w.heap.size ≤ a.block ∧ a.block < w'.heap.size) ∧ w.grownBy w' (some p) ∧ Rst w' p b s1 ∧ Step st paperP x s1
theorem ppInf : (Try.prog.info? 33).map (·.size) = some 11 := by kernel_rfl
theorem seven {ns : List Int} (h : ns.length = 7) : ∃ a b c d e f g, ns = [a, b, c, d, e, f, g] := by
  match ns, h with
  | [a, b, c, d, e, f, g], _ => exact ⟨a, b, c, d, e, f, g, rfl⟩
set_option maxHeartbeats 8000000 in
set_option maxRecDepth 100000 in
theorem fpaper_any (p : Nat) (b : List UInt8) (st : Option (List UInt8)) (w : World) (hR : Rst w p b st) :
    Calls Try.prog 34 #[.pointer (some ⟨p, 0, none⟩)] w (PaperR p b st w) := by
  obtain ⟨i0, hi0, hz0, hz1, hz2⟩ := info_parts intInfo
  have hpl := hR.lt
  have HR := Lib.hid hR; clear hR
  have HZ : Hid ((w.alloc (.cells #[.string ⟨#[]⟩, iV 0, iV 0, iV 0, iV 0, iV 0, iV 0, iV 0, .string ⟨#[]⟩, iV 0, .slice none 0 0] 33)).heap[w.heap.size]? = some (.cells #[.string ⟨#[]⟩, iV 0, iV 0, iV 0, iV 0, iV 0, iV 0, iV 0, .string ⟨#[]⟩, iV 0, .slice none 0 0] 33 (0, 0))) := heap_alloc_new _ _
  go_enter Try.func34, Try.ntmps34
  go_wp2_with fail
  refine (ftxt_any p b st _ (HR.out.alloc _)).mono ?_
  rintro e w1 ⟨s, rfl, hsl, hg, hs, hv⟩
  have HG1 := Lib.hid (gt (g_alloc (gr w _) _) hg)
  have HZ1 := Lib.hid ((hg.block _ (block_lt HZ.out) (by simp; omega)).trans HZ.out)
  have HP1 := Lib.hid (Step.mk' hv)
  have HS1 := Lib.hid hs
  clear hg hs hv HZ
  generalize (st.bind txtP).map (·.2) = s1 at *
  go_wp2_with fail
  refine (fnums_any p b s1 7 _ HS1.out (by omega)).mono ?_
  rintro e w2 ⟨ns, A, c, rfl, hnl, hni, ho, hg, hs, hv⟩
  obtain ⟨n1, n2, n3, n4, n5, n6, n7, rfl⟩ := seven hnl
  have HG2 := Lib.hid (gt HG1.out hg)
  have HZ2 := Lib.hid ((hg.block _ (block_lt HZ1.out) (by simp; omega)).trans HZ1.out)
  have HP2 := Lib.hid (Step.mk' hv)
  have HS2 := Lib.hid hs
  generalize (s1.bind (numsP 7)).map (·.2) = s2 at *
  obtain ⟨bn, on, hA, hbn, hcn⟩ := (own_rd ho).get (i := 0) (by simp)
  subst hA
  have k0 : w2.cell? ⟨bn, on, none⟩ = some (iV n1) := by simpa using hcn 0 _ rfl
  have k1 : w2.cell? ⟨bn, on + 1, none⟩ = some (iV n2) := hcn 1 _ rfl
  have k2 : w2.cell? ⟨bn, on + 2, none⟩ = some (iV n3) := hcn 2 _ rfl
  have k3 : w2.cell? ⟨bn, on + 3, none⟩ = some (iV n4) := hcn 3 _ rfl
  have k4 : w2.cell? ⟨bn, on + 4, none⟩ = some (iV n5) := hcn 4 _ rfl
  have k5 : w2.cell? ⟨bn, on + 5, none⟩ = some (iV n6) := hcn 5 _ rfl
  have k6 : w2.cell? ⟨bn, on + 6, none⟩ = some (iV n7) := hcn 6 _ rfl
  have HSw : Hid (∀ w', w2.grownBy w' none → w'.cell? ⟨bn, on, none⟩ = some (iV n1) ∧ w'.cell? ⟨bn, on + 1, none⟩ = some (iV n2) ∧ w'.cell? ⟨bn, on + 2, none⟩ = some (iV n3) ∧ w'.cell? ⟨bn, on + 3, none⟩ = some (iV n4) ∧ w'.cell? ⟨bn, on + 4, none⟩ = some (iV n5) ∧ w'.cell? ⟨bn, on + 5, none⟩ = some (iV n6) ∧ w'.cell? ⟨bn, on + 6, none⟩ = some (iV n7)) := fun w' h => by
    have hb : w'.heap[bn]? = w2.heap[bn]? := h.block bn hbn (by simp)
    exact ⟨(World.cell?_of_block (a := ⟨bn, on, none⟩) hb).trans k0, (World.cell?_of_block (a := ⟨bn, on + 1, none⟩) hb).trans k1, (World.cell?_of_block (a := ⟨bn, on + 2, none⟩) hb).trans k2, (World.cell?_of_block (a := ⟨bn, on + 3, none⟩) hb).trans k3, (World.cell?_of_block (a := ⟨bn, on + 4, none⟩) hb).trans k4, (World.cell?_of_block (a := ⟨bn, on + 5, none⟩) hb).trans k5, (World.cell?_of_block (a := ⟨bn, on + 6, none⟩) hb).trans k6⟩
  clear hg hs hv hnl hni ho hcn HZ1 HG1 HS1
  go_wp2
  refine wp_region_noPanic ?_
  refine wp_region_held_drew (S := (fun w' => w'.cell? ⟨bn, on, none⟩ = some (iV n1) ∧ w'.cell? ⟨bn, on + 1, none⟩ = some (iV n2) ∧ w'.cell? ⟨bn, on + 2, none⟩ = some (iV n3) ∧ w'.cell? ⟨bn, on + 3, none⟩ = some (iV n4) ∧ w'.cell? ⟨bn, on + 4, none⟩ = some (iV n5) ∧ w'.cell? ⟨bn, on + 5, none⟩ = some (iV n6) ∧ w'.cell? ⟨bn, on + 6, none⟩ = some (iV n7))) (by kernel_rfl) (HSw.out _ (g_drewN (gr w2 _) 1)) (fun hHeld => ?_)
  refine wpAnyH_take (i := 0) (v := ?_) rfl (by kernel_rfl) (by kernel_rfl) (by kernel_rfl) (fun _ _ _ h => h) (Or.inl ⟨by kernel_rfl, ?_⟩) (by assumption) ?_
  rotate_left
  · (intro w hSw; (try dsimp only at hSw); go_simp; (try with_reducible rfl))
  refine wpAnyH_take (i := 1) (v := ?_) rfl (by kernel_rfl) (by kernel_rfl) (by kernel_rfl) (fun _ _ _ h => h) (Or.inl ⟨by kernel_rfl, ?_⟩) (by assumption) ?_
  rotate_left
  · (intro w hSw; (try dsimp only at hSw); go_simp; (try with_reducible rfl))
  refine wpAnyH_take (i := 2) (v := ?_) rfl (by kernel_rfl) (by kernel_rfl) (by kernel_rfl) (fun _ _ _ h => h) (Or.inl ⟨by kernel_rfl, ?_⟩) (by assumption) ?_
  rotate_left
  · (intro w hSw; (try dsimp only at hSw); go_simp; (try with_reducible rfl))
  refine wpAnyH_take (i := 3) (v := ?_) rfl (by kernel_rfl) (by kernel_rfl) (by kernel_rfl) (fun _ _ _ h => h) (Or.inl ⟨by kernel_rfl, ?_⟩) (by assumption) ?_
  rotate_left
  · (intro w hSw; (try dsimp only at hSw); go_simp; (try with_reducible rfl))
  refine wpAnyH_take (i := 4) (v := ?_) rfl (by kernel_rfl) (by kernel_rfl) (by kernel_rfl) (fun _ _ _ h => h) (Or.inl ⟨by kernel_rfl, ?_⟩) (by assumption) ?_
  rotate_left
  · (intro w hSw; (try dsimp only at hSw); go_simp; (try with_reducible rfl))
  refine wpAnyH_take (i := 5) (v := ?_) rfl (by kernel_rfl) (by kernel_rfl) (by kernel_rfl) (fun _ _ _ h => h) (Or.inl ⟨by kernel_rfl, ?_⟩) (by assumption) ?_
  rotate_left
  · (intro w hSw; (try dsimp only at hSw); go_simp; (try with_reducible rfl))
  refine wpAnyH_take (i := 6) (v := ?_) rfl (by kernel_rfl) (by kernel_rfl) (by kernel_rfl) (fun _ _ _ h => h) (Or.inl ⟨by kernel_rfl, ?_⟩) (by assumption) ?_
  rotate_left
  · (intro w hSw; (try dsimp only at hSw); go_simp; (try with_reducible rfl))
  refine wpAnyH_take (i := 7) (v := ?_) rfl (by kernel_rfl) (by kernel_rfl) (by kernel_rfl) (fun _ _ _ h => h) (Or.inl ⟨by kernel_rfl, ?_⟩) (by assumption) ?_
  rotate_left
  · (intro w hSw; (try dsimp only at hSw); go_simp; (try with_reducible rfl))
  refine wpAnyH_take (i := 8) (v := ?_) rfl (by kernel_rfl) (by kernel_rfl) (by kernel_rfl) (fun _ _ _ h => h) (Or.inl ⟨by kernel_rfl, ?_⟩) (by assumption) ?_
  rotate_left
  · (intro w hSw; (try dsimp only at hSw); go_simp; (try with_reducible rfl))
  refine wpAnyH_take (i := 9) (v := ?_) rfl (by kernel_rfl) (by kernel_rfl) (by kernel_rfl) (fun _ _ _ h => h) (Or.inl ⟨by kernel_rfl, ?_⟩) (by assumption) ?_
  rotate_left
  · (intro w hSw; (try dsimp only at hSw); go_simp; (try with_reducible rfl))
  refine wpAnyH_take (i := 10) (v := ?_) rfl (by kernel_rfl) (by kernel_rfl) (by kernel_rfl) (fun _ _ _ h => h) (Or.inl ⟨by kernel_rfl, ?_⟩) (by assumption) ?_
  rotate_left
  · (intro w hSw; (try dsimp only at hSw); go_simp; (try with_reducible rfl))
  refine wpAnyH_take (i := 11) (v := ?_) rfl (by kernel_rfl) (by kernel_rfl) (by kernel_rfl) (fun _ _ _ h => h) (Or.inl ⟨by kernel_rfl, ?_⟩) (by assumption) ?_
  rotate_left
  · (intro w hSw; (try dsimp only at hSw); go_simp; (try with_reducible rfl))
  refine wpAnyH_take (i := 12) (v := ?_) rfl (by kernel_rfl) (by kernel_rfl) (by kernel_rfl) (fun _ _ _ h => h) (Or.inl ⟨by kernel_rfl, ?_⟩) (by assumption) ?_
  rotate_left
  · (intro w hSw; (try dsimp only at hSw); go_simp; (try with_reducible rfl))
  refine wpAnyH_take (i := 13) (v := ?_) rfl (by kernel_rfl) (by kernel_rfl) (by kernel_rfl) (fun _ _ _ h => h) (Or.inl ⟨by kernel_rfl, ?_⟩) (by assumption) ?_
  rotate_left
  · (intro w hSw; (try dsimp only at hSw); go_simp; (try with_reducible rfl))
  refine wpAnyH_take (i := 14) (v := ?_) rfl (by kernel_rfl) (by kernel_rfl) (by kernel_rfl) (fun _ _ _ h => h) (Or.inl ⟨by kernel_rfl, ?_⟩) (by assumption) ?_
  rotate_left
  · (intro w hSw; (try dsimp only at hSw); go_simp; (try with_reducible rfl))
  refine wpAnyH_take (i := 15) (v := ?_) rfl (by kernel_rfl) (by kernel_rfl) (by kernel_rfl) (fun _ _ _ h => h) (Or.inl ⟨by kernel_rfl, ?_⟩) (by assumption) ?_
  rotate_left
  · (intro w hSw; (try dsimp only at hSw); go_simp; (try with_reducible rfl))
  refine wpAnyH_take (i := 16) (v := ?_) rfl (by kernel_rfl) (by kernel_rfl) (by kernel_rfl) (fun _ _ _ h => h) (Or.inl ⟨by kernel_rfl, ?_⟩) (by assumption) ?_
  rotate_left
  · (intro w hSw; (try dsimp only at hSw); go_simp; (try with_reducible rfl))
  refine wpAnyH_take (i := 17) (v := ?_) rfl (by kernel_rfl) (by kernel_rfl) (by kernel_rfl) (fun _ _ _ h => h) (Or.inl ⟨by kernel_rfl, ?_⟩) (by assumption) ?_
  rotate_left
  · (intro w hSw; (try dsimp only at hSw); go_simp; (try with_reducible rfl))
  refine wpAnyH_take (i := 18) (v := ?_) rfl (by kernel_rfl) (by kernel_rfl) (by kernel_rfl) (fun _ _ _ h => h) (Or.inl ⟨by kernel_rfl, ?_⟩) (by assumption) ?_
  rotate_left
  · (intro w hSw; (try dsimp only at hSw); go_simp; (try with_reducible rfl))
  refine wpAnyH_take (i := 19) (v := ?_) rfl (by kernel_rfl) (by kernel_rfl) (by kernel_rfl) (fun _ _ _ h => h) (Or.inl ⟨by kernel_rfl, ?_⟩) (by assumption) ?_
  rotate_left
  · (intro w hSw; (try dsimp only at hSw); go_simp; (try with_reducible rfl))
  refine wpAnyH_take (i := 20) (v := ?_) rfl (by kernel_rfl) (by kernel_rfl) (by kernel_rfl) (fun _ _ _ h => h) (Or.inl ⟨by kernel_rfl, ?_⟩) (by assumption) ?_
  rotate_left
  · (intro w hSw; (try dsimp only at hSw); go_simp; (try with_reducible rfl))
  refine wpAnyH_take (i := 21) (v := ?_) rfl (by kernel_rfl) (by kernel_rfl) (by kernel_rfl) (fun _ _ _ h => h) (Or.inl ⟨by kernel_rfl, ?_⟩) (by assumption) ?_
  rotate_left
  · (intro w hSw; (try dsimp only at hSw); go_simp; (try with_reducible rfl))
  refine wpAnyH_take (i := 22) (v := ?_) rfl (by kernel_rfl) (by kernel_rfl) (by kernel_rfl) (fun _ _ _ h => h) (Or.inl ⟨by kernel_rfl, ?_⟩) (by assumption) ?_
  rotate_left
  · (intro w hSw; (try dsimp only at hSw); go_simp; (try with_reducible rfl))
  refine wpAnyH_take (i := 23) (v := ?_) rfl (by kernel_rfl) (by kernel_rfl) (by kernel_rfl) (fun _ _ _ h => h) (Or.inl ⟨by kernel_rfl, ?_⟩) (by assumption) ?_
  rotate_left
  · (intro w hSw; (try dsimp only at hSw); go_simp; (try with_reducible rfl))
  refine wpAnyH_ready (rs := [24]) (by kernel_rfl) (by simp) ?_
  refine AllReadyH.cons rfl (fun K hK => ?_) AllReadyH.nil
  go_simp
  refine hK.out _ _ (HSw.out _ (g_drew (g_alloc (gr w2 _) _))) (fun hHeld => ?_)
  clear hK K
  refine wpAnyH_ready (rs := [25]) (by kernel_rfl) (by simp) ?_
  refine AllReadyH.cons rfl (fun K hK => ?_) AllReadyH.nil
  rw [if_pos (by kernel_rfl)]
  refine wp_store_row 33 (.tmp 5) (.tmp 35) (by rfl) w2.heap.size #[sV s, iV n1, iV n2, iV n3, iV n4, iV n5, iV n6, iV n7, .string ⟨#[]⟩, iV 0, .slice none 0 0] (by rfl) (by rfl) 33 #[.string ⟨#[]⟩, iV 0, iV 0, iV 0, iV 0, iV 0, iV 0, iV 0, .string ⟨#[]⟩, iV 0, .slice none 0 0] (heap_alloc_new _ _) ppInf (by rfl) (by simp [Value.oneCell']) (hK.out _ _ (HSw.out _ (g_row (g_drew (g_alloc (gr w2 _) _)) (Nat.le_refl _) _)) (fun hHeld => ?_))
  clear hK K
  refine wpAnyH_done (by kernel_rfl) ?_ _
  refine NoPanic.normal ?_
  have HB4 : Hid (((w2.alloc (.cells #[.string ⟨#[]⟩, iV 0, iV 0, iV 0, iV 0, iV 0, iV 0, iV 0, .string ⟨#[]⟩, iV 0, .slice none 0 0] 33)).drew.setRow w2.heap.size #[sV s, iV n1, iV n2, iV n3, iV n4, iV n5, iV n6, iV n7, .string ⟨#[]⟩, iV 0, .slice none 0 0]).heap[w2.heap.size]? = some (.cells #[sV s, iV n1, iV n2, iV n3, iV n4, iV n5, iV n6, iV n7, .string ⟨#[]⟩, iV 0, .slice none 0 0] 33 (0, 0))) := setRow_heap _ _ _ _ _ _ (heap_alloc_new _ _)
  have HG4 : Hid (w.grownBy ((w2.alloc (.cells #[.string ⟨#[]⟩, iV 0, iV 0, iV 0, iV 0, iV 0, iV 0, iV 0, .string ⟨#[]⟩, iV 0, .slice none 0 0] 33)).drew.setRow w2.heap.size #[sV s, iV n1, iV n2, iV n3, iV n4, iV n5, iV n6, iV n7, .string ⟨#[]⟩, iV 0, .slice none 0 0]) (some p)) := g_row (g_drew (g_alloc HG2.out _)) HG2.out.size _
  have hz2 := block_lt HZ2.out
  have HS4 : Hid (Rst ((w2.alloc (.cells #[.string ⟨#[]⟩, iV 0, iV 0, iV 0, iV 0, iV 0, iV 0, iV 0, .string ⟨#[]⟩, iV 0, .slice none 0 0] 33)).drew.setRow w2.heap.size #[sV s, iV n1, iV n2, iV n3, iV n4, iV n5, iV n6, iV n7, .string ⟨#[]⟩, iV 0, .slice none 0 0]) p b s2) := Rst.row (Rst.drew (HS2.out.alloc _)) (Nat.lt_trans hpl hz2) _
  have HZ4 : Hid (((w2.alloc (.cells #[.string ⟨#[]⟩, iV 0, iV 0, iV 0, iV 0, iV 0, iV 0, iV 0, .string ⟨#[]⟩, iV 0, .slice none 0 0] 33)).drew.setRow w2.heap.size #[sV s, iV n1, iV n2, iV n3, iV n4, iV n5, iV n6, iV n7, .string ⟨#[]⟩, iV 0, .slice none 0 0]).heap[w.heap.size]? = some (.cells #[.string ⟨#[]⟩, iV 0, iV 0, iV 0, iV 0, iV 0, iV 0, iV 0, .string ⟨#[]⟩, iV 0, .slice none 0 0] 33 (0, 0))) := (setRow_other _ _ _ _ (by omega)).trans ((Below.heap_alloc _ _ _ hz2).trans HZ2.out)
  have hX : w.heap.size < w2.heap.size := hz2
  clear HG2 HS2 HZ2 k0 k1 k2 k3 k4 k5 k6 HSw hbn hz2 hHeld
  generalize ((w2.alloc (.cells #[.string ⟨#[]⟩, iV 0, iV 0, iV 0, iV 0, iV 0, iV 0, iV 0, .string ⟨#[]⟩, iV 0, .slice none 0 0] 33)).drew.setRow w2.heap.size #[sV s, iV n1, iV n2, iV n3, iV n4, iV n5, iV n6, iV n7, .string ⟨#[]⟩, iV 0, .slice none 0 0]) = W4 at *
  generalize w2.heap.size = X at *
  have hpX : p < X := Nat.lt_trans hpl hX
  have hXl := block_lt HB4.out
  go_wp2_with fail
  refine (ftxt_any p b s2 _ HS4.out).mono ?_
  rintro e w5 ⟨s5, rfl, hsl5, hg, hs, hv⟩
  have HP3 := Lib.hid (Step.mk' hv)
  have HB5 := Lib.hid ((hg.block _ hXl (by simp; omega)).trans HB4.out)
  have HZ5 := Lib.hid ((hg.block _ (Nat.lt_trans hX hXl) (by simp; omega)).trans HZ4.out)
  have HG5 := Lib.hid (gt HG4.out hg)
  have HS5 := Lib.hid hs
  clear hg hs hv HB4 HZ4 HG4 HS4 hXl
  generalize (s2.bind txtP).map (·.2) = s3 at *
  have x8 : w5.cell? ⟨X, 8, none⟩ = some (.string ⟨#[]⟩) := cell_of_row w5 _ 8 _ _ _ HB5.out
  have f8 : w5.frozen? ⟨X, 8, none⟩ = false := frozen_row HB5.out 8
  go_wp2_with fail
  refine (fnum_any p b s3 _ (HS5.out.set hpX 8 _)).mono ?_
  rintro e w6 ⟨n8, rfl, hn8, hg, hs, hv⟩
  have HP4 := Lib.hid (Step.mk' hv)
  clear x8 f8
  have HB6 : Hid (w6.heap[X]? = some (.cells #[sV s, iV n1, iV n2, iV n3, iV n4, iV n5, iV n6, iV n7, sV s5, iV 0, .slice none 0 0] 33 (0, 0))) := (hg.block _ (block_lt (row_set HB5.out 8 (sV s5))) (by simp; omega)).trans (row_set HB5.out 8 (sV s5))
  have HZ6 : Hid (w6.heap[w.heap.size]? = some (.cells #[.string ⟨#[]⟩, iV 0, iV 0, iV 0, iV 0, iV 0, iV 0, iV 0, .string ⟨#[]⟩, iV 0, .slice none 0 0] 33 (0, 0))) := (hg.block _ (block_lt (row_other HZ5.out (Nat.ne_of_lt hX) 8 (sV s5))) (by simp; omega)).trans (row_other HZ5.out (Nat.ne_of_lt hX) 8 (sV s5))
  have HG6 := Lib.hid (gt (g_new HG5.out (Nat.le_of_lt hX) 8 (sV s5)) hg)
  have HS6 := Lib.hid hs
  clear hg hs hv HB5 HZ5 HG5 HS5
  generalize (s3.bind numP).map (·.2) = s4 at *
  have x9 : w6.cell? ⟨X, 9, none⟩ = some (iV 0) := cell_of_row w6 _ 9 _ _ _ HB6.out
  have f9 : w6.frozen? ⟨X, 9, none⟩ = false := frozen_row HB6.out 9
  go_wp2_with fail
  refine (flen_any p b s4 _ (HS6.out.set hpX 9 _)).mono ?_
  rintro e w7 ⟨m0, rfl, ⟨hn1, hn2⟩, hg, hs, hv⟩
  obtain ⟨n, rfl⟩ := Int.eq_ofNat_of_zero_le hn1
  have hn3 : n ≤ 65535 := by omega
  have HP5 := Lib.hid (Step.mk' hv)
  clear x9 f9 hn1 hn2
  have HB7 : Hid (w7.heap[X]? = some (.cells #[sV s, iV n1, iV n2, iV n3, iV n4, iV n5, iV n6, iV n7, sV s5, iV n8, .slice none 0 0] 33 (0, 0))) := (hg.block _ (block_lt (row_set HB6.out 9 (iV n8))) (by simp; omega)).trans (row_set HB6.out 9 (iV n8))
  have HZ7 : Hid (w7.heap[w.heap.size]? = some (.cells #[.string ⟨#[]⟩, iV 0, iV 0, iV 0, iV 0, iV 0, iV 0, iV 0, .string ⟨#[]⟩, iV 0, .slice none 0 0] 33 (0, 0))) := (hg.block _ (block_lt (row_other HZ6.out (Nat.ne_of_lt hX) 9 (iV n8))) (by simp; omega)).trans (row_other HZ6.out (Nat.ne_of_lt hX) 9 (iV n8))
  have HG7 := Lib.hid (gt (g_new HG6.out (Nat.le_of_lt hX) 9 (iV n8)) hg)
  have HS7 := Lib.hid hs
  clear hg hs hv HB6 HZ6 HG6 HS6
  generalize (s4.bind lenI).map (·.2) = s6 at *
  go_wp2
  go_loopg [7] n (fun g i wr => ∃ (k : Nat) (ns2 : List Int) (v : Value) (s7 : Option (List UInt8)), k + g = n ∧ i = iV k ∧ ns2.length ≤ k ∧ k ≤ ns2.length ∧ Hid (wr.heap[X]? = some (.cells #[sV s, iV n1, iV n2, iV n3, iV n4, iV n5, iV n6, iV n7, sV s5, iV n8, v] 33 (0, 0))) ∧ Hid (wr.ownsRow (X + 1) 3 1 v ns2.length (ns2.map iV)) ∧ Hid (Rst wr p b s7) ∧ Hid (Step s6 (numsP k) ns2 s7) ∧ Hid (w.grownBy wr (some p)) ∧ Hid (wr.heap[w.heap.size]? = some (.cells #[.string ⟨#[]⟩, iV 0, iV 0, iV 0, iV 0, iV 0, iV 0, iV 0, .string ⟨#[]⟩, iV 0, .slice none 0 0] 33 (0, 0))))
  case atStart =>
    exact ⟨0, [], _, s6, by omega, rfl, Nat.le_refl _, Nat.le_refl _, HB7, World.ownsRow_nil _ _ _ _, HS7, Step.ret _ _, HG7, HZ7⟩
  case round =>
    obtain ⟨k, ns2, v, s7, hkg, rfl, hk1, hk2, HB, HO, HS, HP, HG, HZ⟩ := hrel
    obtain ⟨wo, rfl⟩ : ∃ wo : World, wo = wr := ⟨_, rfl⟩
    obtain ⟨A2, c2, rfl⟩ := own_form HO.out
    have hb := HS.out.bad
    have hXw := block_lt HB.out
    by_cases hlk : k < n
    · cases s7 with
      | none =>
          change wo.cell? ⟨p, 2, none⟩ = some (.bool true) at hb
          have HF : Hid (Step s6 (numsP n) ns2 none) := nums_more' HP.out (Nat.le_of_lt hlk) ns2
          obtain ⟨s7, hs7⟩ : ∃ s : Option (List UInt8), s = none := ⟨_, rfl⟩
          rw [← hs7] at HF HS
          clear hs7 HP
          go_wp2_with (first | (refine wpList_load_row (by rfl) 33 (.tmp 5) (by rfl) X (by rfl) 33 #[sV s, iV n1, iV n2, iV n3, iV n4, iV n5, iV n6, iV n7, sV s5, iV n8, .slice A2 ns2.length c2] (0, 0) _ HB.out Try.underlying33 rfl ppInf ?_) | (refine wpList_store_row (by rfl) 33 (.tmp 2) (.tmp 66) (by rfl) w.heap.size #[sV s, iV n1, iV n2, iV n3, iV n4, iV n5, iV n6, iV n7, sV s5, iV n8, .slice A2 ns2.length c2] (by rfl) (by rfl) 33 #[.string ⟨#[]⟩, iV 0, iV 0, iV 0, iV 0, iV 0, iV 0, iV 0, .string ⟨#[]⟩, iV 0, .slice none 0 0] HZ.out ppInf rfl (by simp [Value.oneCell']) ?_))
          refine bodyPost_ret (v := .agg #[sV s, iV n1, iV n2, iV n3, iV n4, iV n5, iV n6, iV n7, sV s5, iV n8, .slice A2 ns2.length c2]) (results_cell_row (p := 2) (ty := 33) rfl _ _ w.heap.size 33 _ (0, 0) _ (by rfl) (setRow_heap _ _ _ _ _ _ HZ.out) Try.underlying33 rfl ppInf) rfl ?_
          refine ⟨⟨s, n1, n2, n3, n4, n5, n6, n7, s5, n8, ns2⟩, A2, c2, s7, rfl, rd_row (own_rd HO.out) (fun a ha => by have := own_at HO.out a ha; omega) _, fun a ha => ?_, g_row HG.out (Nat.le_refl _) _, HS.out.row hpl _, ?_⟩
          · have := own_at HO.out a ha
            rw [setRow_size]
            omega
          · rw [paperP_and]
            exact HP1.out.and (HP2.out.and (HP3.out.and (HP4.out.and (HP5.out.and (HF.out.and (Step.ret _ _))))))
      | some l4 =>
        change wo.cell? ⟨p, 2, none⟩ = some (.bool false) at hb
        have c5_ : wo.cell? ⟨X, 10, none⟩ = some (.slice A2 ns2.length c2) := cell_of_row wo _ 10 _ _ _ HB.out
        have f5_ : wo.frozen? ⟨X, 10, none⟩ = false := frozen_row HB.out 10
        obtain ⟨g1, rfl⟩ : ∃ g1, gk = g1 + 1 := ⟨gk - 1, by omega⟩
        go_wp2
        go_region_law (first
            | (go_simp; go_at_call 30; refine (fnum_any p b (some l4) _ (Rst.drew HS.out)).mono ?_; rintro e w7 ⟨s7, rfl, hs7, hg, hs, hv⟩; have HG7 : Hid (wo.grownBy w7 (some p)) := g_undrew hg; have HS7 := Lib.hid hs; have HP7 := Lib.hid (nums_step' HP.out (Step.mk' hv)); clear hg hs hv; have hXl7 : X < w7.heap.size := Nat.lt_of_lt_of_le hXw HG7.out.size; have a7 : ∀ o, (w7.alloc o).cell? ⟨X, 10, none⟩ = w7.cell? ⟨X, 10, none⟩ := fun o => World.cell?_alloc_past _ _ _ hXl7; have c7 : w7.cell? ⟨X, 10, none⟩ = some (.slice A2 ns2.length c2) := (World.cell?_of_block (a := ⟨X, 10, none⟩) (HG7.out.block _ hXw (by simp; omega))).trans c5_; have f7 : w7.frozen? ⟨X, 10, none⟩ = false := (World.frozen?_of_block (a := ⟨X, 10, none⟩) (HG7.out.block _ hXw (by simp; omega))).trans f5_)
            | (refine step_app (by rfl) _ _ _ _ (by rfl) (X + 1) 3 i0 _ 1 8 Try.underlying29 hi0 hz0 hz1 hz2 (by rfl) _ ns2.length _ (by rfl) ((own_g HO.out HG7.out (by omega)).alloc _) _ (by rfl) 1 [iV s7] (src_rd Try.underlying29 (Rd.new w7 [iV s7] _) rfl (by simp [Value.oneCell'])) (by unfold maxLen; omega) (by omega) (by have := HG7.out.size; simp; omega) ?_; intro A8 c8 w8 hown8 hgrow8 hat8; have HB8 : Hid (w8.heap[X]? = w7.heap[X]?) := block_app (own_g HO.out HG7.out (by omega)) hgrow8 (by omega) (Nat.lt_of_lt_of_le hXw HG7.out.size); have c9 : w8.cell? ⟨X, 10, none⟩ = some (.slice A2 ns2.length c2) := (World.cell?_of_block (a := ⟨X, 10, none⟩) HB8.out).trans c7; have f9 : w8.frozen? ⟨X, 10, none⟩ = false := (World.frozen?_of_block (a := ⟨X, 10, none⟩) HB8.out).trans f7; have HG8 := Lib.hid hgrow8; clear hgrow8; have HO8 := Lib.hid hown8; clear hown8; clear hat8))
        all_goals
          clear c5_ f5_ c7 f7
          go_wp2
          go_roundg g1
          case measure => omega
          case rel =>
            have hown7 := (own_g HO.out HG7.out (by omega)).alloc (Obj.cells #[iV s7] 3)
            have hsz7 := HG7.out.size
            refine ⟨k + 1, ns2 ++ [s7], .slice A8 (ns2.length + 1) c8, _, by omega, by go_num, by simp; omega, by simp; omega, ?_, ?_, ((HS7.out.alloc _).app hown7 HG8.out (by omega)).set hpX _ _, HP7, g_new (g_own (g_alloc (gt HG.out HG7.out) _) hown7 HG8.out (by omega)) (by omega) _ _, ?_⟩
            · exact row_set (HB8.out.trans ((HG7.out.block _ hXw (by simp; omega)).trans HB.out)) _ _
            · have := own_set HO8.out (B := X) (by omega) 10 (.slice A8 (ns2.length + 1) c8)
              show World.ownsRow _ _ _ _ _ _ _
              simpa using this
            · exact row_other ((block_app (own_g HO.out HG7.out (by omega)) HG8.out (by omega) (by omega)).trans ((HG7.out.block _ (by omega) (by simp; omega)).trans HZ.out)) (by omega) _ _
    · obtain rfl : k = n := by omega
      have HF := HP
      go_wp2_with (first | (refine wpList_load_row (by rfl) 33 (.tmp 5) (by rfl) X (by rfl) 33 #[sV s, iV n1, iV n2, iV n3, iV n4, iV n5, iV n6, iV n7, sV s5, iV n8, .slice A2 ns2.length c2] (0, 0) _ HB.out Try.underlying33 rfl ppInf ?_) | (refine wpList_store_row (by rfl) 33 (.tmp 2) (.tmp 66) (by rfl) w.heap.size #[sV s, iV n1, iV n2, iV n3, iV n4, iV n5, iV n6, iV n7, sV s5, iV n8, .slice A2 ns2.length c2] (by rfl) (by rfl) 33 #[.string ⟨#[]⟩, iV 0, iV 0, iV 0, iV 0, iV 0, iV 0, iV 0, .string ⟨#[]⟩, iV 0, .slice none 0 0] HZ.out ppInf rfl (by simp [Value.oneCell']) ?_))
      refine bodyPost_ret (v := .agg #[sV s, iV n1, iV n2, iV n3, iV n4, iV n5, iV n6, iV n7, sV s5, iV n8, .slice A2 ns2.length c2]) (results_cell_row (p := 2) (ty := 33) rfl _ _ w.heap.size 33 _ (0, 0) _ (by rfl) (setRow_heap _ _ _ _ _ _ HZ.out) Try.underlying33 rfl ppInf) rfl ?_
      refine ⟨⟨s, n1, n2, n3, n4, n5, n6, n7, s5, n8, ns2⟩, A2, c2, s7, rfl, rd_row (own_rd HO.out) (fun a ha => by have := own_at HO.out a ha; omega) _, fun a ha => ?_, g_row HG.out (Nat.le_refl _) _, HS.out.row hpl _, ?_⟩
      · have := own_at HO.out a ha
        rw [setRow_size]
        omega
      · rw [paperP_and]
        exact HP1.out.and (HP2.out.and (HP3.out.and (HP4.out.and (HP5.out.and (HF.out.and (Step.ret _ _))))))
end Go.Proofs.Ytoaembpakmpolaa
