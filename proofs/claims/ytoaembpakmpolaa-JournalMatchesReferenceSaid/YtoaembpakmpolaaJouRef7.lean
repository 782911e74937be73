/-
  The walks over the reference of the journal: the bytes of posts, records and papers. (Written by a program: wip/jou/gen_ref7.py.)
-/
import Derived.Test.YtoaembpakmpolaaJouRef1
import Derived.Deep.DeepCutAuto
namespace Go.Proofs.Ytoaembpakmpolaa
open Go.RowKit Jou
attribute [local go_sem] ba_get ba_extract ba_append

theorem b_drew {B : Nat} {a w : World} (h : Below B a w) : Below B a w.drew := ⟨h.os, h.tape, h.output, h.size, h.block⟩
theorem own_len {w : World} {base n : Nat} {e : TypeId} {v : Value} {l : List UInt8} (h : w.ownsRow base e 1 v n (l.map bV)) : l.length = n := by
  have := h.1; rwa [List.length_map, Nat.mul_one] at this
theorem own_app {w : World} {base n : Nat} {e : TypeId} {v : Value} {l m : List UInt8} (h : w.ownsRow base e 1 v n (l.map bV ++ m.map bV)) : w.ownsRow base e 1 v n ((l ++ m).map bV) := by
  rw [List.map_append]; exact h
theorem own_lt {w w' : World} {b1 n1 n2 : Nat} {e1 e2 : TypeId} {v1 v2 : Value} {x1 x2 : List Value} (h : w.ownsRow b1 e1 1 v1 n1 x1) (k : w'.ownsRow w.heap.size e2 1 v2 n2 x2) : v1.ownBlock = none ∨ v1.ownBlock ≠ v2.ownBlock := by
  cases hv : v1.ownBlock with
  | none => exact .inl rfl
  | some g =>
    refine .inr fun e => ?_
    have h1 := (h.lt g hv).2
    have h2 := (k.lt g e.symm).1
    omega
theorem own_newL (w : World) (l : List Value) (t : TypeId) (hl : l.length ≤ maxLen) : (w.alloc (.cells l.toArray t)).ownsRow w.heap.size t 1 (.slice (some ⟨w.heap.size, 0, none⟩) l.length l.length) l.length l :=
  ⟨by simp, .inr ⟨w.heap.size, l.length, _, rfl, Nat.le_refl _, heap_alloc_new _ _, Nat.le_refl _, hl, by simp, by simp⟩⟩
theorem own_apart' {W : World} {b1 b2 n1 n2 : Nat} {e1 e2 : TypeId} {v1 v2 : Value} {x1 x2 : List Value} (h1 : W.ownsRow b1 e1 1 v1 n1 x1) (h2 : W.ownsRow b2 e2 1 v2 n2 x2) (he : e1 ≠ e2) : v1.ownBlock = none ∨ v1.ownBlock ≠ v2.ownBlock := by
  rcases h1.2 with ⟨rfl, _⟩ | ⟨g, c, cur, rfl, _, hg, _⟩
  · exact .inl rfl
  · rcases h2.2 with ⟨rfl, _⟩ | ⟨g2, c2, cur2, rfl, _, hg2, _⟩
    · exact .inr (by simp [Value.ownBlock])
    · refine .inr fun h => ?_
      simp [Value.ownBlock] at h
      subst h
      rw [hg] at hg2
      cases hg2
      exact he rfl
/-- A younger row is kept where an elder one is appended to. -/
theorem own_far {w w' : World} {b n : Nat} {e : TypeId} {v v1 : Value} {xs : List Value} (h : w.ownsRow b e 1 v n xs) (hg : w.grownBy w' v1.ownBlock) (hne : v1.ownBlock = none ∨ v1.ownBlock ≠ v.ownBlock) : w'.ownsRow b e 1 v n xs :=
  h.kept hg (by
    rcases hne with h0 | h0
    · cases hv : v.ownBlock with
      | none => exact .inl rfl
      | some g => exact .inr (by rw [h0]; simp)
    · exact .inr fun e => h0 e.symm)
/-- An elder row is kept where a younger one is appended to. -/
theorem own_near {w w' : World} {b n : Nat} {e : TypeId} {v v1 : Value} {xs : List Value} (h : w.ownsRow b e 1 v n xs) (hg : w.grownBy w' v1.ownBlock) (hne : v.ownBlock = none ∨ v.ownBlock ≠ v1.ownBlock) : w'.ownsRow b e 1 v n xs :=
  h.kept hg hne
theorem own_b {w W0 w' : World} {A : Option Addr} {n c : Nat} {l : List UInt8} (h0 : Below w.heap.size w W0) (hb : Below W0.heap.size W0 w') (h : w'.ownsRow W0.heap.size 5 1 (.slice A n c) n (l.map bV)) {e : Ending} (he : e = .returned (.slice A n c)) {m : List UInt8} (hm : m = l) : OwnB w m e w' := by
  subst hm
  have hn := own_len h
  subst hn
  exact ⟨A, c, he, own_base h h0.size, h0.trans (hb.mono h0.size)⟩
set_option maxHeartbeats 4000000 in
set_option maxRecDepth 100000 in
theorem fpostB_any (x : Post) (w : World) (hx : Post.Ok x) (hl : x.label.length ≤ 65535) :
    Calls Try.prog 51 #[.agg (postCells x)] w (OwnB w (postB x)) := by
  obtain ⟨i0, hi0, hz0, hz1, hz2⟩ := info_parts byteInf
  have HXO := Lib.hid hx; clear hx
  have HT : Hid ((txtB x.label).length = 2 + x.label.length) := by show (lenB _ ++ _).length = _; rw [List.length_append]; rfl
  have HX := Lib.hid (heap_alloc_new w (.cells (postCells x) 23))
  have HB0 := Lib.hid (ba w (.cells (postCells x) 23))
  have hW1 : w.heap.size < (w.alloc (.cells (postCells x) 23)).heap.size := by simp
  unfold postCells at HX HB0 hW1 ⊢
  go_enter Try.func51, Try.ntmps51
  go_upto_region 1 with fail
  generalize (w.alloc (.cells _ 23)) = W0 at *
  have k0 : W0.cell? ⟨w.heap.size, 0, none⟩ = some (sV x.label) := cell_of_row W0 _ 0 _ _ _ HX.out
  have k1 : W0.cell? ⟨w.heap.size, 1, none⟩ = some (iV x.frm) := cell_of_row W0 _ 1 _ _ _ HX.out
  have k2 : W0.cell? ⟨w.heap.size, 2, none⟩ = some (iV x.to) := cell_of_row W0 _ 2 _ _ _ HX.out
  have k3 : W0.cell? ⟨w.heap.size, 3, none⟩ = some (iV x.cls) := cell_of_row W0 _ 3 _ _ _ HX.out
  have k4 : W0.cell? ⟨w.heap.size, 4, none⟩ = some (iV x.acc) := cell_of_row W0 _ 4 _ _ _ HX.out
  have HSw : Hid (∀ w', Below W0.heap.size W0 w' → w'.cell? ⟨w.heap.size, 0, none⟩ = some (sV x.label) ∧ w'.cell? ⟨w.heap.size, 1, none⟩ = some (iV x.frm) ∧ w'.cell? ⟨w.heap.size, 2, none⟩ = some (iV x.to) ∧ w'.cell? ⟨w.heap.size, 3, none⟩ = some (iV x.cls) ∧ w'.cell? ⟨w.heap.size, 4, none⟩ = some (iV x.acc)) := fun w' h => by
    have hb : w'.heap[w.heap.size]? = W0.heap[w.heap.size]? := h.block _ hW1
    exact ⟨(World.cell?_of_block (a := ⟨w.heap.size, 0, none⟩) hb).trans k0, (World.cell?_of_block (a := ⟨w.heap.size, 1, none⟩) hb).trans k1, (World.cell?_of_block (a := ⟨w.heap.size, 2, none⟩) hb).trans k2, (World.cell?_of_block (a := ⟨w.heap.size, 3, none⟩) hb).trans k3, (World.cell?_of_block (a := ⟨w.heap.size, 4, none⟩) hb).trans k4⟩
  refine wp_region_noPanic ?_
  refine wp_region_held_drew (S := (fun w' => w'.cell? ⟨w.heap.size, 0, none⟩ = some (sV x.label) ∧ w'.cell? ⟨w.heap.size, 1, none⟩ = some (iV x.frm) ∧ w'.cell? ⟨w.heap.size, 2, none⟩ = some (iV x.to) ∧ w'.cell? ⟨w.heap.size, 3, none⟩ = some (iV x.cls) ∧ w'.cell? ⟨w.heap.size, 4, none⟩ = some (iV x.acc))) (by kernel_rfl) (HSw.out _ ((b_drew (Below.refl W0.heap.size W0)))) (fun hHeld => ?_)
  refine wpAnyH_take (i := 0) (v := ?_) rfl (by kernel_rfl) (by kernel_rfl) (by kernel_rfl) (fun _ _ _ h => h) (Or.inl ⟨by kernel_rfl, ?_⟩) (by assumption) ?_
  rotate_left
  · (intro w hSw; (try dsimp only at hSw); go_simp; (try with_reducible rfl))
  refine wpAnyH_take (i := 3) (v := ?_) rfl (by kernel_rfl) (by kernel_rfl) (by kernel_rfl) (fun _ _ _ h => h) (Or.inl ⟨by kernel_rfl, ?_⟩) (by assumption) ?_
  rotate_left
  · (intro w hSw; (try dsimp only at hSw); go_simp; (try with_reducible rfl))
  refine wpAnyH_take (i := 5) (v := ?_) rfl (by kernel_rfl) (by kernel_rfl) (by kernel_rfl) (fun _ _ _ h => h) (Or.inl ⟨by kernel_rfl, ?_⟩) (by assumption) ?_
  rotate_left
  · (intro w hSw; (try dsimp only at hSw); go_simp; (try with_reducible rfl))
  refine wpAnyH_take (i := 7) (v := ?_) rfl (by kernel_rfl) (by kernel_rfl) (by kernel_rfl) (fun _ _ _ h => h) (Or.inl ⟨by kernel_rfl, ?_⟩) (by assumption) ?_
  rotate_left
  · (intro w hSw; (try dsimp only at hSw); go_simp; (try with_reducible rfl))
  refine wpAnyH_take (i := 9) (v := ?_) rfl (by kernel_rfl) (by kernel_rfl) (by kernel_rfl) (fun _ _ _ h => h) (Or.inl ⟨by kernel_rfl, ?_⟩) (by assumption) ?_
  rotate_left
  · (intro w hSw; (try dsimp only at hSw); go_simp; (try with_reducible rfl))
  refine wpAnyH_take (i := 1) (v := ?_) rfl (by kernel_rfl) (by kernel_rfl) (by kernel_rfl) (fun _ _ _ h => h) (Or.inl ⟨by kernel_rfl, ?_⟩) (by assumption) ?_
  rotate_left
  · (intro w hSw; (try dsimp only at hSw); go_simp; (try with_reducible rfl))
  refine wpAnyH_take (i := 4) (v := ?_) rfl (by kernel_rfl) (by kernel_rfl) (by kernel_rfl) (fun _ _ _ h => h) (Or.inl ⟨by kernel_rfl, ?_⟩) (by assumption) ?_
  rotate_left
  · (intro w hSw; (try dsimp only at hSw); go_simp; (try with_reducible rfl))
  refine wpAnyH_take (i := 6) (v := ?_) rfl (by kernel_rfl) (by kernel_rfl) (by kernel_rfl) (fun _ _ _ h => h) (Or.inl ⟨by kernel_rfl, ?_⟩) (by assumption) ?_
  rotate_left
  · (intro w hSw; (try dsimp only at hSw); go_simp; (try with_reducible rfl))
  refine wpAnyH_take (i := 8) (v := ?_) rfl (by kernel_rfl) (by kernel_rfl) (by kernel_rfl) (fun _ _ _ h => h) (Or.inl ⟨by kernel_rfl, ?_⟩) (by assumption) ?_
  rotate_left
  · (intro w hSw; (try dsimp only at hSw); go_simp; (try with_reducible rfl))
  refine wpAnyH_take (i := 10) (v := ?_) rfl (by kernel_rfl) (by kernel_rfl) (by kernel_rfl) (fun _ _ _ h => h) (Or.inl ⟨by kernel_rfl, ?_⟩) (by assumption) ?_
  rotate_left
  · (intro w hSw; (try dsimp only at hSw); go_simp; (try with_reducible rfl))
  refine wpAnyH_ready (rs := [2, 11]) (by kernel_rfl) (by simp) ?_
  refine AllReadyH.cons rfl (fun K hK => ?q1) (AllReadyH.cons rfl (fun K hK => ?q2) AllReadyH.nil)
  case q1 =>
    go_simp
    refine (ftext_any x.label _ (by omega)).mono ?_
    rintro e w_q2 ⟨A_q2, c_q2, rfl, ho_q2, hb_q2⟩
    have HO_q2 := Lib.hid (own_base ho_q2 ((b_drew (Below.refl W0.heap.size W0))).size)
    have HN_q2 := Lib.hid (((b_drew (Below.refl W0.heap.size W0))).trans (hb_q2.mono ((b_drew (Below.refl W0.heap.size W0))).size))
    clear ho_q2 hb_q2
    go_wp2_with fail
    refine hK.out _ _ (HSw.out _ (HN_q2.out)) (fun hHeld => ?_)
    clear hK K
    refine wpAnyH_ready (rs := [11]) (by kernel_rfl) (by simp) ?_
    refine AllReadyH.cons rfl (fun K hK => ?_) AllReadyH.nil
    go_simp
    refine hK.out _ _ (HSw.out _ (((HN_q2.out).alloc (HN_q2.out).size _))) (fun hHeld => ?_)
    clear hK K
    refine wpAnyH_ready (rs := [12]) (by kernel_rfl) (by simp) ?_
    refine AllReadyH.cons rfl (fun K hK => ?_) AllReadyH.nil
    go_simp
    refine (fnumbers_any [x.frm, x.to, x.cls, x.acc] _ _ _ (own_rd ((show World.ownsRow (w_q2.alloc (.cells #[iV x.frm, iV x.to, iV x.cls, iV x.acc] 3)) _ _ _ _ _ _ from own_newL w_q2 [iV x.frm, iV x.to, iV x.cls, iV x.acc] 3 (by simp [maxLen])))) (by simp only [List.mem_cons, List.not_mem_nil, or_false, forall_eq_or_imp, forall_eq]; exact HXO.out.2) (by simp)).mono ?_
    rintro e w_q12 ⟨A_q12, c_q12, rfl, ho_q12, hb_q12⟩
    have HO_q12 := Lib.hid (own_base ho_q12 (((HN_q2.out).alloc (HN_q2.out).size _)).size)
    have HN_q12 := Lib.hid ((((HN_q2.out).alloc (HN_q2.out).size _)).trans (hb_q12.mono (((HN_q2.out).alloc (HN_q2.out).size _)).size))
    have HL_q12_2 := Lib.hid (own_lt ((World.ownsRow.alloc (HO_q2.out) _)) ho_q12)
    have HO_q12_2 := Lib.hid (own_below ((World.ownsRow.alloc (HO_q2.out) _)) hb_q12)
    have HR_q12_11 := Lib.hid (own_below ((show World.ownsRow (w_q2.alloc (.cells #[iV x.frm, iV x.to, iV x.cls, iV x.acc] 3)) _ _ _ _ _ _ from own_newL w_q2 [iV x.frm, iV x.to, iV x.cls, iV x.acc] 3 (by simp [maxLen]))) hb_q12)
    clear ho_q12 hb_q12
    go_wp2_with fail
    refine hK.out _ _ (HSw.out _ (HN_q12.out)) (fun hHeld => ?_)
    clear hK K
    refine wpAnyH_ready (rs := [13]) (by kernel_rfl) (by simp) ?_
    refine AllReadyH.cons rfl (fun K hK => ?_) AllReadyH.nil
    have hx_q13 := own_len (HO_q12_2.out)
    have hy_q13 := own_len (HO_q12.out)
    have HX_q13 := Lib.hid hx_q13
    have HY_q13 := Lib.hid hy_q13
    refine step_app (by rfl) _ _ _ _ (by rfl) W0.heap.size 5 i0 _ 1 1 Try.underlying38 hi0 hz0 hz1 hz2 (by rfl) _ ((txtB x.label).length) _ (by rfl) (HO_q12_2.out) _ (by rfl) ((numsB [x.frm, x.to, x.cls, x.acc]).length) ((numsB [x.frm, x.to, x.cls, x.acc]).map bV) (src_rd Try.underlying38 (own_rd (HO_q12.out)) ((List.length_map _).trans hy_q13) (one_b _)) (by unfold maxLen; have := HT.out; have := numsB_len [x.frm, x.to, x.cls, x.acc]; simp at *; omega) (by have := HT.out; have := numsB_len [x.frm, x.to, x.cls, x.acc]; simp at *; omega) ((HN_q12.out).size) ?_
    clear hx_q13 hy_q13
    intro A_q13 c_q13 w_q13 ho_q13 hg_q13 _
    have HN_q13 := Lib.hid (app_below (HN_q12.out) (Nat.le_refl _) (HO_q12_2.out) (Nat.le_refl _) hg_q13)
    have HR_q13_11 := Lib.hid (own_near (HR_q12_11.out) hg_q13 (own_apart' (HR_q12_11.out) (HO_q12_2.out) (by decide)))
    have HO_q13 := Lib.hid (own_app ho_q13)
    clear ho_q13 hg_q13
    refine hK.out _ _ (HSw.out _ (HN_q13.out)) (fun hHeld => ?_)
    clear hK K
    refine wpAnyH_take (i := 14) (v := ?_) rfl (by kernel_rfl) (by kernel_rfl) (by kernel_rfl) (fun _ _ _ h => h) (Or.inl ⟨by kernel_rfl, ?_⟩) (by assumption) ?_
    rotate_left
    · (intro w hSw; (try dsimp only at hSw); go_simp; (try with_reducible rfl))
    refine wpAnyH_done (by kernel_rfl) ?_ _
    refine NoPanic.normal ?_
    go_wp2_with fail
    go_ret
    exact own_b HB0.out (HN_q13.out) (HO_q13.out) rfl rfl
  case q2 =>
    go_simp
    refine hK.out _ _ (HSw.out _ ((((b_drew (Below.refl W0.heap.size W0))).alloc ((b_drew (Below.refl W0.heap.size W0))).size _))) (fun hHeld => ?_)
    clear hK K
    refine wpAnyH_ready (rs := [2]) (by kernel_rfl) (by simp) ?_
    refine AllReadyH.cons rfl (fun K hK => ?_) AllReadyH.nil
    go_simp
    refine (ftext_any x.label _ (by omega)).mono ?_
    rintro e w_q2 ⟨A_q2, c_q2, rfl, ho_q2, hb_q2⟩
    have HO_q2 := Lib.hid (own_base ho_q2 ((((b_drew (Below.refl W0.heap.size W0))).alloc ((b_drew (Below.refl W0.heap.size W0))).size _)).size)
    have HN_q2 := Lib.hid (((((b_drew (Below.refl W0.heap.size W0))).alloc ((b_drew (Below.refl W0.heap.size W0))).size _)).trans (hb_q2.mono ((((b_drew (Below.refl W0.heap.size W0))).alloc ((b_drew (Below.refl W0.heap.size W0))).size _)).size))
    have HR_q2_11 := Lib.hid (own_below ((show World.ownsRow (W0.alloc (.cells #[iV x.frm, iV x.to, iV x.cls, iV x.acc] 3)).drew _ _ _ _ _ _ from own_newL W0 [iV x.frm, iV x.to, iV x.cls, iV x.acc] 3 (by simp [maxLen]))) hb_q2)
    clear ho_q2 hb_q2
    go_wp2_with fail
    refine hK.out _ _ (HSw.out _ (HN_q2.out)) (fun hHeld => ?_)
    clear hK K
    refine wpAnyH_ready (rs := [12]) (by kernel_rfl) (by simp) ?_
    refine AllReadyH.cons rfl (fun K hK => ?_) AllReadyH.nil
    go_simp
    refine (fnumbers_any [x.frm, x.to, x.cls, x.acc] _ _ _ (own_rd (HR_q2_11.out)) (by simp only [List.mem_cons, List.not_mem_nil, or_false, forall_eq_or_imp, forall_eq]; exact HXO.out.2) (by simp)).mono ?_
    rintro e w_q12 ⟨A_q12, c_q12, rfl, ho_q12, hb_q12⟩
    have HO_q12 := Lib.hid (own_base ho_q12 (HN_q2.out).size)
    have HN_q12 := Lib.hid ((HN_q2.out).trans (hb_q12.mono (HN_q2.out).size))
    have HL_q12_2 := Lib.hid (own_lt (HO_q2.out) ho_q12)
    have HO_q12_2 := Lib.hid (own_below (HO_q2.out) hb_q12)
    have HR_q12_11 := Lib.hid (own_below (HR_q2_11.out) hb_q12)
    clear ho_q12 hb_q12
    go_wp2_with fail
    refine hK.out _ _ (HSw.out _ (HN_q12.out)) (fun hHeld => ?_)
    clear hK K
    refine wpAnyH_ready (rs := [13]) (by kernel_rfl) (by simp) ?_
    refine AllReadyH.cons rfl (fun K hK => ?_) AllReadyH.nil
    have hx_q13 := own_len (HO_q12_2.out)
    have hy_q13 := own_len (HO_q12.out)
    have HX_q13 := Lib.hid hx_q13
    have HY_q13 := Lib.hid hy_q13
    refine step_app (by rfl) _ _ _ _ (by rfl) W0.heap.size 5 i0 _ 1 1 Try.underlying38 hi0 hz0 hz1 hz2 (by rfl) _ ((txtB x.label).length) _ (by rfl) (HO_q12_2.out) _ (by rfl) ((numsB [x.frm, x.to, x.cls, x.acc]).length) ((numsB [x.frm, x.to, x.cls, x.acc]).map bV) (src_rd Try.underlying38 (own_rd (HO_q12.out)) ((List.length_map _).trans hy_q13) (one_b _)) (by unfold maxLen; have := HT.out; have := numsB_len [x.frm, x.to, x.cls, x.acc]; simp at *; omega) (by have := HT.out; have := numsB_len [x.frm, x.to, x.cls, x.acc]; simp at *; omega) ((HN_q12.out).size) ?_
    clear hx_q13 hy_q13
    intro A_q13 c_q13 w_q13 ho_q13 hg_q13 _
    have HN_q13 := Lib.hid (app_below (HN_q12.out) (Nat.le_refl _) (HO_q12_2.out) (Nat.le_refl _) hg_q13)
    have HR_q13_11 := Lib.hid (own_near (HR_q12_11.out) hg_q13 (own_apart' (HR_q12_11.out) (HO_q12_2.out) (by decide)))
    have HO_q13 := Lib.hid (own_app ho_q13)
    clear ho_q13 hg_q13
    refine hK.out _ _ (HSw.out _ (HN_q13.out)) (fun hHeld => ?_)
    clear hK K
    refine wpAnyH_take (i := 14) (v := ?_) rfl (by kernel_rfl) (by kernel_rfl) (by kernel_rfl) (fun _ _ _ h => h) (Or.inl ⟨by kernel_rfl, ?_⟩) (by assumption) ?_
    rotate_left
    · (intro w hSw; (try dsimp only at hSw); go_simp; (try with_reducible rfl))
    refine wpAnyH_done (by kernel_rfl) ?_ _
    refine NoPanic.normal ?_
    go_wp2_with fail
    go_ret
    exact own_b HB0.out (HN_q13.out) (HO_q13.out) rfl rfl
theorem txtsB_take (ss : List (List UInt8)) (k : Nat) (h : k < ss.length) : txtsB (ss.take (k + 1)) = txtsB (ss.take k) ++ txtB ss[k] := by
  unfold txtsB
  rw [List.take_succ_eq_append_getElem h, List.flatMap_append]
  simp only [List.flatMap_cons, List.flatMap_nil, List.append_nil]
theorem txtsB_le (ss : List (List UInt8)) (k : Nat) : (txtsB (ss.take k)).length ≤ (txtsB ss).length := by
  have : txtsB ss = txtsB (ss.take k) ++ txtsB (ss.drop k) := by unfold txtsB; rw [← List.flatMap_append, List.take_append_drop]
  rw [this, List.length_append]; omega
theorem txtB_len (s : List UInt8) : (txtB s).length = 2 + s.length := by show (lenB _ ++ _).length = _; rw [List.length_append]; rfl
theorem lenB_len (n : Nat) : (lenB n).length = 2 := rfl
set_option maxHeartbeats 4000000 in
set_option maxRecDepth 100000 in
theorem frecB_any (x : Rec) (A : Option Addr) (c : Nat) (w : World) (hA : Rd w A (x.contents.map sV)) (hx : Rec.Ok x) (hl : x.label.length ≤ 65535) (hc : x.contents.length ≤ 65535) (hs : ∀ s ∈ x.contents, s.length ≤ 65535) (htot : (recB x).length ≤ 1000000) :
    Calls Try.prog 52 #[.agg (recCells x A c)] w (OwnB w (recB x)) := by
  obtain ⟨i0, hi0, hz0, hz1, hz2⟩ := info_parts byteInf
  have HXO := Lib.hid hx; clear hx
  have HS := Lib.hid hs; clear hs
  have HA := Lib.hid hA; clear hA
  have HT := Lib.hid (txtB_len x.label)
  have HTT : Hid (∀ k, (txtsB (x.contents.take k)).length ≤ 1000000) := fun k => by
    have h1 := txtsB_le x.contents k
    have h2 : (recB x).length = (numsB [x.scanner, x.number, x.kind, x.time] ++ txtB x.label ++ lenB x.contents.length).length + (txtsB x.contents).length := by unfold recB; rw [List.length_append]
    omega
  clear htot
  have HX := Lib.hid (heap_alloc_new w (.cells (recCells x A c) 26))
  have HB0 := Lib.hid (ba w (.cells (recCells x A c) 26))
  have hW1 : w.heap.size < (w.alloc (.cells (recCells x A c) 26)).heap.size := by simp
  unfold recCells at HX HB0 hW1 ⊢
  go_enter Try.func52, Try.ntmps52
  go_upto_region 1 with fail
  generalize (w.alloc (.cells _ 26)) = W0 at *
  have k0 : W0.cell? ⟨w.heap.size, 0, none⟩ = some (iV x.scanner) := cell_of_row W0 _ 0 _ _ _ HX.out
  have k1 : W0.cell? ⟨w.heap.size, 1, none⟩ = some (iV x.number) := cell_of_row W0 _ 1 _ _ _ HX.out
  have k2 : W0.cell? ⟨w.heap.size, 2, none⟩ = some (iV x.kind) := cell_of_row W0 _ 2 _ _ _ HX.out
  have k3 : W0.cell? ⟨w.heap.size, 3, none⟩ = some (iV x.time) := cell_of_row W0 _ 3 _ _ _ HX.out
  have k4 : W0.cell? ⟨w.heap.size, 4, none⟩ = some (sV x.label) := cell_of_row W0 _ 4 _ _ _ HX.out
  have k5 : W0.cell? ⟨w.heap.size, 5, none⟩ = some (.slice A x.contents.length c) := cell_of_row W0 _ 5 _ _ _ HX.out
  have HSw : Hid (∀ w', Below W0.heap.size W0 w' → w'.cell? ⟨w.heap.size, 0, none⟩ = some (iV x.scanner) ∧ w'.cell? ⟨w.heap.size, 1, none⟩ = some (iV x.number) ∧ w'.cell? ⟨w.heap.size, 2, none⟩ = some (iV x.kind) ∧ w'.cell? ⟨w.heap.size, 3, none⟩ = some (iV x.time) ∧ w'.cell? ⟨w.heap.size, 4, none⟩ = some (sV x.label) ∧ w'.cell? ⟨w.heap.size, 5, none⟩ = some (.slice A x.contents.length c)) := fun w' h => by
    have hb : w'.heap[w.heap.size]? = W0.heap[w.heap.size]? := h.block _ hW1
    exact ⟨(World.cell?_of_block (a := ⟨w.heap.size, 0, none⟩) hb).trans k0, (World.cell?_of_block (a := ⟨w.heap.size, 1, none⟩) hb).trans k1, (World.cell?_of_block (a := ⟨w.heap.size, 2, none⟩) hb).trans k2, (World.cell?_of_block (a := ⟨w.heap.size, 3, none⟩) hb).trans k3, (World.cell?_of_block (a := ⟨w.heap.size, 4, none⟩) hb).trans k4, (World.cell?_of_block (a := ⟨w.heap.size, 5, none⟩) hb).trans k5⟩
  refine wp_region_noPanic ?_
  refine wp_region_held_drew (S := (fun w' => w'.cell? ⟨w.heap.size, 0, none⟩ = some (iV x.scanner) ∧ w'.cell? ⟨w.heap.size, 1, none⟩ = some (iV x.number) ∧ w'.cell? ⟨w.heap.size, 2, none⟩ = some (iV x.kind) ∧ w'.cell? ⟨w.heap.size, 3, none⟩ = some (iV x.time) ∧ w'.cell? ⟨w.heap.size, 4, none⟩ = some (sV x.label) ∧ w'.cell? ⟨w.heap.size, 5, none⟩ = some (.slice A x.contents.length c))) (by kernel_rfl) (HSw.out _ ((b_drew (Below.refl W0.heap.size W0)))) (fun hHeld => ?_)
  refine wpAnyH_take (i := 0) (v := ?_) rfl (by kernel_rfl) (by kernel_rfl) (by kernel_rfl) (fun _ _ _ h => h) (Or.inl ⟨by kernel_rfl, ?_⟩) (by assumption) ?_
  rotate_left
  · (intro w hSw; (try dsimp only at hSw); go_simp; (try with_reducible rfl))
  refine wpAnyH_take (i := 2) (v := ?_) rfl (by kernel_rfl) (by kernel_rfl) (by kernel_rfl) (fun _ _ _ h => h) (Or.inl ⟨by kernel_rfl, ?_⟩) (by assumption) ?_
  rotate_left
  · (intro w hSw; (try dsimp only at hSw); go_simp; (try with_reducible rfl))
  refine wpAnyH_take (i := 4) (v := ?_) rfl (by kernel_rfl) (by kernel_rfl) (by kernel_rfl) (fun _ _ _ h => h) (Or.inl ⟨by kernel_rfl, ?_⟩) (by assumption) ?_
  rotate_left
  · (intro w hSw; (try dsimp only at hSw); go_simp; (try with_reducible rfl))
  refine wpAnyH_take (i := 6) (v := ?_) rfl (by kernel_rfl) (by kernel_rfl) (by kernel_rfl) (fun _ _ _ h => h) (Or.inl ⟨by kernel_rfl, ?_⟩) (by assumption) ?_
  rotate_left
  · (intro w hSw; (try dsimp only at hSw); go_simp; (try with_reducible rfl))
  refine wpAnyH_take (i := 10) (v := ?_) rfl (by kernel_rfl) (by kernel_rfl) (by kernel_rfl) (fun _ _ _ h => h) (Or.inl ⟨by kernel_rfl, ?_⟩) (by assumption) ?_
  rotate_left
  · (intro w hSw; (try dsimp only at hSw); go_simp; (try with_reducible rfl))
  refine wpAnyH_take (i := 1) (v := ?_) rfl (by kernel_rfl) (by kernel_rfl) (by kernel_rfl) (fun _ _ _ h => h) (Or.inl ⟨by kernel_rfl, ?_⟩) (by assumption) ?_
  rotate_left
  · (intro w hSw; (try dsimp only at hSw); go_simp; (try with_reducible rfl))
  refine wpAnyH_take (i := 3) (v := ?_) rfl (by kernel_rfl) (by kernel_rfl) (by kernel_rfl) (fun _ _ _ h => h) (Or.inl ⟨by kernel_rfl, ?_⟩) (by assumption) ?_
  rotate_left
  · (intro w hSw; (try dsimp only at hSw); go_simp; (try with_reducible rfl))
  refine wpAnyH_take (i := 5) (v := ?_) rfl (by kernel_rfl) (by kernel_rfl) (by kernel_rfl) (fun _ _ _ h => h) (Or.inl ⟨by kernel_rfl, ?_⟩) (by assumption) ?_
  rotate_left
  · (intro w hSw; (try dsimp only at hSw); go_simp; (try with_reducible rfl))
  refine wpAnyH_take (i := 7) (v := ?_) rfl (by kernel_rfl) (by kernel_rfl) (by kernel_rfl) (fun _ _ _ h => h) (Or.inl ⟨by kernel_rfl, ?_⟩) (by assumption) ?_
  rotate_left
  · (intro w hSw; (try dsimp only at hSw); go_simp; (try with_reducible rfl))
  refine wpAnyH_take (i := 11) (v := ?_) rfl (by kernel_rfl) (by kernel_rfl) (by kernel_rfl) (fun _ _ _ h => h) (Or.inl ⟨by kernel_rfl, ?_⟩) (by assumption) ?_
  rotate_left
  · (intro w hSw; (try dsimp only at hSw); go_simp; (try with_reducible rfl))
  refine wpAnyH_ready (rs := [8]) (by kernel_rfl) (by simp) ?_
  refine AllReadyH.cons rfl (fun K hK => ?_) AllReadyH.nil
  go_simp
  refine hK.out _ _ (HSw.out _ ((((b_drew (Below.refl W0.heap.size W0))).alloc ((b_drew (Below.refl W0.heap.size W0))).size _))) (fun hHeld => ?_)
  clear hK K
  refine wpAnyH_ready (rs := [9]) (by kernel_rfl) (by simp) ?_
  refine AllReadyH.cons rfl (fun K hK => ?_) AllReadyH.nil
  go_simp
  refine (fnumbers_any [x.scanner, x.number, x.kind, x.time] _ _ _ (own_rd ((show World.ownsRow (W0.alloc (.cells #[iV x.scanner, iV x.number, iV x.kind, iV x.time] 3)).drew _ _ _ _ _ _ from own_newL W0 [iV x.scanner, iV x.number, iV x.kind, iV x.time] 3 (by simp [maxLen])))) HXO.out.1 (by simp)).mono ?_
  rintro e w_q9 ⟨A_q9, c_q9, rfl, ho_q9, hb_q9⟩
  have HO_q9 := Lib.hid (own_base ho_q9 ((((b_drew (Below.refl W0.heap.size W0))).alloc ((b_drew (Below.refl W0.heap.size W0))).size _)).size)
  have HN_q9 := Lib.hid (((((b_drew (Below.refl W0.heap.size W0))).alloc ((b_drew (Below.refl W0.heap.size W0))).size _)).trans (hb_q9.mono ((((b_drew (Below.refl W0.heap.size W0))).alloc ((b_drew (Below.refl W0.heap.size W0))).size _)).size))
  have HR_q9_8 := Lib.hid (own_below ((show World.ownsRow (W0.alloc (.cells #[iV x.scanner, iV x.number, iV x.kind, iV x.time] 3)).drew _ _ _ _ _ _ from own_newL W0 [iV x.scanner, iV x.number, iV x.kind, iV x.time] 3 (by simp [maxLen]))) hb_q9)
  clear ho_q9 hb_q9
  go_wp2_with fail
  refine hK.out _ _ (HSw.out _ (HN_q9.out)) (fun hHeld => ?_)
  clear hK K
  refine wpAnyH_ready (rs := [12]) (by kernel_rfl) (by simp) ?_
  refine AllReadyH.cons rfl (fun K hK => ?_) AllReadyH.nil
  go_simp
  refine (ftext_any x.label _ (by omega)).mono ?_
  rintro e w_q12 ⟨A_q12, c_q12, rfl, ho_q12, hb_q12⟩
  have HO_q12 := Lib.hid (own_base ho_q12 (HN_q9.out).size)
  have HN_q12 := Lib.hid ((HN_q9.out).trans (hb_q12.mono (HN_q9.out).size))
  have HL_q12_9 := Lib.hid (own_lt (HO_q9.out) ho_q12)
  have HO_q12_9 := Lib.hid (own_below (HO_q9.out) hb_q12)
  have HR_q12_8 := Lib.hid (own_below (HR_q9_8.out) hb_q12)
  clear ho_q12 hb_q12
  go_wp2_with fail
  refine hK.out _ _ (HSw.out _ (HN_q12.out)) (fun hHeld => ?_)
  clear hK K
  refine wpAnyH_ready (rs := [13]) (by kernel_rfl) (by simp) ?_
  refine AllReadyH.cons rfl (fun K hK => ?_) AllReadyH.nil
  have hx_q13 := own_len (HO_q12_9.out)
  have hy_q13 := own_len (HO_q12.out)
  have HX_q13 := Lib.hid hx_q13
  have HY_q13 := Lib.hid hy_q13
  refine step_app (by rfl) _ _ _ _ (by rfl) W0.heap.size 5 i0 _ 1 1 Try.underlying38 hi0 hz0 hz1 hz2 (by rfl) _ ((numsB [x.scanner, x.number, x.kind, x.time]).length) _ (by rfl) (HO_q12_9.out) _ (by rfl) ((txtB x.label).length) ((txtB x.label).map bV) (src_rd Try.underlying38 (own_rd (HO_q12.out)) ((List.length_map _).trans hy_q13) (one_b _)) (by unfold maxLen; have := HT.out; have := numsB_len [x.scanner, x.number, x.kind, x.time]; simp at *; omega) (by have := HT.out; have := numsB_len [x.scanner, x.number, x.kind, x.time]; simp at *; omega) ((HN_q12.out).size) ?_
  clear hx_q13 hy_q13
  intro A_q13 c_q13 w_q13 ho_q13 hg_q13 _
  have HN_q13 := Lib.hid (app_below (HN_q12.out) (Nat.le_refl _) (HO_q12_9.out) (Nat.le_refl _) hg_q13)
  have HR_q13_8 := Lib.hid (own_near (HR_q12_8.out) hg_q13 (own_apart' (HR_q12_8.out) (HO_q12_9.out) (by decide)))
  have HO_q13 := Lib.hid (own_app ho_q13)
  clear ho_q13 hg_q13
  refine hK.out _ _ (HSw.out _ (HN_q13.out)) (fun hHeld => ?_)
  clear hK K
  refine wpAnyH_take (i := 14) (v := ?_) rfl (by kernel_rfl) (by kernel_rfl) (by kernel_rfl) (fun _ _ _ h => h) (Or.inl ⟨by kernel_rfl, ?_⟩) (by assumption) ?_
  rotate_left
  · (intro w hSw; (try dsimp only at hSw); go_simp; (try with_reducible rfl))
  refine wpAnyH_done (by kernel_rfl) ?_ _
  refine NoPanic.normal ?_
  have HN1 := Lib.hid (HN_q13.out)
  have HO1 := Lib.hid (HO_q13.out)
  obtain ⟨k0_, k1_, k2_, k3_, k4_, k5_⟩ := HSw.out _ HN1.out
  have HLN : Hid ((numsB [x.scanner, x.number, x.kind, x.time] ++ txtB x.label).length ≤ 70000) := by show _ ≤ _; have h1 := HT.out; have h2 := numsB_len [x.scanner, x.number, x.kind, x.time]; rw [List.length_append, h1, h2]; simp; omega
  go_wp2_with (first
    | (go_at_call 67; refine (flength_any x.contents.length _ (by unfold maxLen; omega)).mono ?_; rintro e w3 ⟨A3, c3, rfl, ho3, hb3⟩; have HO3 := Lib.hid ho3; have HN3 := Lib.hid (HN1.out.trans (hb3.mono HN1.out.size)); have HO13 := Lib.hid (own_below HO1.out hb3); clear ho3 hb3)
    | (at_builtin; refine wpList_app (by rfl) _ _ _ _ (by rfl) W0.heap.size 5 i0 _ 1 1 Try.underlying38 hi0 hz0 hz1 hz2 (by rfl) _ ((numsB [x.scanner, x.number, x.kind, x.time]).length + (txtB x.label).length) _ (by rfl) HO13.out _ (by rfl) 2 ((lenB x.contents.length).map bV) (src_rd Try.underlying38 (own_rd HO3.out) (by rfl) (one_b _)) (by have := own_len HO1.out; have := HLN.out; unfold maxLen; omega) (by have := own_len HO1.out; have := HLN.out; omega) HN3.out.size ?_; intro A4 c4 w4 ho4 hg4 _; have HN4 := Lib.hid (app_below HN3.out (Nat.le_refl _) HO13.out (Nat.le_refl _) hg4); have HO4 := Lib.hid (own_app ho4); clear ho4 hg4)
    | fail)
  have HX4 : Hid (numsB [x.scanner, x.number, x.kind, x.time] ++ txtB x.label ++ lenB x.contents.length = numsB [x.scanner, x.number, x.kind, x.time] ++ txtB x.label ++ lenB x.contents.length ++ txtsB (x.contents.take 0)) := by show _ = _; simp [txtsB]
  clear HO1 HN1 HO3 HO13 HN3 k0_ k1_ k2_ k3_ k4_ k5_
  go_loopw [3, 4] (fun v i wr => ∃ k n : Nat, k ≤ x.contents.length ∧ i = iV k ∧ Hid (wr.ownsRow W0.heap.size 5 1 v n ((numsB [x.scanner, x.number, x.kind, x.time] ++ txtB x.label ++ lenB x.contents.length ++ txtsB (x.contents.take k)).map bV)) ∧ Hid (Below W0.heap.size W0 wr)) (fun _ i _ => x.contents.length - (intOf i).toNat)
  case atStart => exact ⟨0, _, Nat.zero_le _, rfl, by show World.ownsRow _ _ _ _ _ _ _; rw [← HX4.out]; exact HO4.out, HN4⟩
  case round =>
    obtain ⟨k, n, hk, rfl, HO, HB⟩ := hrel
    obtain ⟨A2, c2, rfl⟩ := own_form HO.out
    obtain ⟨k0_, k1_, k2_, k3_, k4_, k5_⟩ := HSw.out _ HB.out
    clear k0_ k1_ k2_ k3_ k4_
    by_cases hlt : k < x.contents.length
    · have HA2 : Hid (Rd wr A (x.contents.map sV)) := HA.out.below (HB0.out.trans (HB.out.mono HB0.out.size))
      obtain ⟨b, off, rfl, hb1, hcc⟩ := HA2.out.get (i := k) (by simpa using hlt)
      have kk : wr.cell? ⟨b, off + k, none⟩ = some (sV x.contents[k]) := hcc k _ (by simp [hlt])
      clear hcc
      have i1 : (0 : Int) ≤ (k : Int) := by omega
      have i2 : (k : Int) < (x.contents.length : Int) := by omega
      have hsk := HS.out _ (List.getElem_mem hlt)
      have HTK := Lib.hid (txtB_len x.contents[k])
      have HST := Lib.hid (txtsB_take x.contents k hlt)
      have HNL : Hid (n ≤ 1100000) := by
        show _ ≤ _
        have h1 := own_len HO.out
        have h2 := HLN.out
        have h3 := HTT.out k
        rw [← h1]
        simp only [List.length_append, lenB_len] at h2 ⊢
        omega
      go_wp2_with (first
        | (go_at_call 50; refine (ftext_any x.contents[k] _ (by omega)).mono ?_; rintro e w3 ⟨A3, c3, rfl, ho3, hb3⟩; have HO3 := Lib.hid ho3; have HN3 := Lib.hid (HB.out.trans (hb3.mono HB.out.size)); have HO13 := Lib.hid (own_below HO.out hb3); clear ho3 hb3)
        | (at_builtin; refine wpList_app (by rfl) _ _ _ _ (by rfl) W0.heap.size 5 i0 _ 1 1 Try.underlying38 hi0 hz0 hz1 hz2 (by rfl) _ n _ (by rfl) HO13.out _ (by rfl) (txtB x.contents[k]).length ((txtB x.contents[k]).map bV) (src_rd Try.underlying38 (own_rd HO3.out) (List.length_map _) (one_b _)) (by have := HNL.out; have := HTK.out; unfold maxLen; omega) (by have := HNL.out; have := HTK.out; omega) HN3.out.size ?_; intro A4 c4 w4 ho4 hg4 _; have HN5 := Lib.hid (app_below HN3.out (Nat.le_refl _) HO13.out (Nat.le_refl _) hg4); have HO5 := Lib.hid (own_app ho4); clear ho4 hg4)
        | fail)
      go_roundw
      case rel => exact ⟨k + 1, _, by omega, by go_num, by show World.ownsRow _ _ _ _ _ _ _; rw [HST.out, ← List.append_assoc]; exact HO5.out, HN5⟩
      case measure => simp [intOf]; omega
    · obtain rfl : k = x.contents.length := by omega
      rw [List.take_length] at HO
      go_wp2_with fail
      go_ret
      exact own_b HB0.out HB.out HO.out rfl rfl
set_option maxHeartbeats 4000000 in
set_option maxRecDepth 100000 in
theorem fpaperB_any (x : Paper) (A : Option Addr) (c : Nat) (w : World) (hA : Rd w A (x.path.map iV)) (hx : Paper.Ok x) (hl : x.sl.length ≤ 65535) (hl2 : x.label.length ≤ 65535) (hc : x.path.length ≤ 65535) :
    Calls Try.prog 53 #[.agg (paperCells x A c)] w (OwnB w (paperB x)) := by
  obtain ⟨i0, hi0, hz0, hz1, hz2⟩ := info_parts byteInf
  have HXO := Lib.hid hx; clear hx
  have HA := Lib.hid hA; clear hA
  have HT := Lib.hid (txtB_len x.sl)
  have HT2 := Lib.hid (txtB_len x.label)
  have HX := Lib.hid (heap_alloc_new w (.cells (paperCells x A c) 33))
  have HB0 := Lib.hid (ba w (.cells (paperCells x A c) 33))
  unfold paperCells at HX HB0 ⊢
  go_enter Try.func53, Try.ntmps53
  go_upto_region 2 with fail
  have HY : Hid (((w.alloc (.cells #[sV x.sl, iV x.frm, iV x.to, iV x.time, iV x.count, iV x.root, iV x.give, iV x.take, sV x.label, iV x.index, .slice A x.path.length c] 33)).alloc (.cells #[sV x.sl, iV x.frm, iV x.to, iV x.time, iV x.count, iV x.root, iV x.give, iV x.take] 28)).heap[w.heap.size + 1]? = some (.cells #[sV x.sl, iV x.frm, iV x.to, iV x.time, iV x.count, iV x.root, iV x.give, iV x.take] 28 (0, 0))) := by
    have := heap_alloc_new (w.alloc (.cells #[sV x.sl, iV x.frm, iV x.to, iV x.time, iV x.count, iV x.root, iV x.give, iV x.take, sV x.label, iV x.index, .slice A x.path.length c] 33)) (.cells #[sV x.sl, iV x.frm, iV x.to, iV x.time, iV x.count, iV x.root, iV x.give, iV x.take] 28)
    rwa [World.size_alloc] at this
  have HX1 : Hid (((w.alloc (.cells #[sV x.sl, iV x.frm, iV x.to, iV x.time, iV x.count, iV x.root, iV x.give, iV x.take, sV x.label, iV x.index, .slice A x.path.length c] 33)).alloc (.cells #[sV x.sl, iV x.frm, iV x.to, iV x.time, iV x.count, iV x.root, iV x.give, iV x.take] 28)).heap[w.heap.size]? = some (.cells #[sV x.sl, iV x.frm, iV x.to, iV x.time, iV x.count, iV x.root, iV x.give, iV x.take, sV x.label, iV x.index, .slice A x.path.length c] 33 (0, 0))) := (Below.heap_alloc _ _ _ (by simp)).trans HX.out
  have HB1 : Hid (Below w.heap.size w ((w.alloc (.cells #[sV x.sl, iV x.frm, iV x.to, iV x.time, iV x.count, iV x.root, iV x.give, iV x.take, sV x.label, iV x.index, .slice A x.path.length c] 33)).alloc (.cells #[sV x.sl, iV x.frm, iV x.to, iV x.time, iV x.count, iV x.root, iV x.give, iV x.take] 28))) := HB0.out.alloc HB0.out.size _
  have hW1 : w.heap.size + 1 < ((w.alloc (.cells #[sV x.sl, iV x.frm, iV x.to, iV x.time, iV x.count, iV x.root, iV x.give, iV x.take, sV x.label, iV x.index, .slice A x.path.length c] 33)).alloc (.cells #[sV x.sl, iV x.frm, iV x.to, iV x.time, iV x.count, iV x.root, iV x.give, iV x.take] 28)).heap.size := by simp
  clear HX HB0
  change Code.wp _ _ _ _ ((w.alloc (.cells #[sV x.sl, iV x.frm, iV x.to, iV x.time, iV x.count, iV x.root, iV x.give, iV x.take, sV x.label, iV x.index, .slice A x.path.length c] 33)).alloc (.cells #[sV x.sl, iV x.frm, iV x.to, iV x.time, iV x.count, iV x.root, iV x.give, iV x.take] 28))
  generalize ((w.alloc (.cells #[sV x.sl, iV x.frm, iV x.to, iV x.time, iV x.count, iV x.root, iV x.give, iV x.take, sV x.label, iV x.index, .slice A x.path.length c] 33)).alloc (.cells #[sV x.sl, iV x.frm, iV x.to, iV x.time, iV x.count, iV x.root, iV x.give, iV x.take] 28)) = W0 at *
  have HSw : Hid (∀ w', Below W0.heap.size W0 w' → w'.cell? ⟨w.heap.size + 1, 0, none⟩ = some (sV x.sl) ∧ w'.cell? ⟨w.heap.size + 1, 1, none⟩ = some (iV x.frm) ∧ w'.cell? ⟨w.heap.size + 1, 2, none⟩ = some (iV x.to) ∧ w'.cell? ⟨w.heap.size + 1, 3, none⟩ = some (iV x.time) ∧ w'.cell? ⟨w.heap.size + 1, 4, none⟩ = some (iV x.count) ∧ w'.cell? ⟨w.heap.size + 1, 5, none⟩ = some (iV x.root) ∧ w'.cell? ⟨w.heap.size + 1, 6, none⟩ = some (iV x.give) ∧ w'.cell? ⟨w.heap.size + 1, 7, none⟩ = some (iV x.take) ∧ w'.cell? ⟨w.heap.size, 8, none⟩ = some (sV x.label) ∧ w'.cell? ⟨w.heap.size, 9, none⟩ = some (iV x.index) ∧ w'.cell? ⟨w.heap.size, 10, none⟩ = some (.slice A x.path.length c)) := fun w' h => by
    have hb : w'.heap[w.heap.size + 1]? = W0.heap[w.heap.size + 1]? := h.block _ hW1
    have hb2 : w'.heap[w.heap.size]? = W0.heap[w.heap.size]? := h.block _ (by omega)
    exact ⟨cell_of_row w' _ 0 _ _ _ (hb.trans HY.out), cell_of_row w' _ 1 _ _ _ (hb.trans HY.out), cell_of_row w' _ 2 _ _ _ (hb.trans HY.out), cell_of_row w' _ 3 _ _ _ (hb.trans HY.out), cell_of_row w' _ 4 _ _ _ (hb.trans HY.out), cell_of_row w' _ 5 _ _ _ (hb.trans HY.out), cell_of_row w' _ 6 _ _ _ (hb.trans HY.out), cell_of_row w' _ 7 _ _ _ (hb.trans HY.out), cell_of_row w' _ 8 _ _ _ (hb2.trans HX1.out), cell_of_row w' _ 9 _ _ _ (hb2.trans HX1.out), cell_of_row w' _ 10 _ _ _ (hb2.trans HX1.out)⟩
  clear HY HX1 hW1
  go_cut [4] (fun v wx => ∃ A n c, v = .slice A n c ∧ Hid (wx.ownsRow W0.heap.size 5 1 v n ((txtB x.sl ++ numsB [x.frm, x.to, x.time, x.count, x.root, x.give, x.take]).map bV)) ∧ Hid (Below W0.heap.size W0 wx))
  case first =>
    refine wp_region_noPanic ?_
    refine wp_region_held_drew (S := (fun w' => w'.cell? ⟨w.heap.size + 1, 0, none⟩ = some (sV x.sl) ∧ w'.cell? ⟨w.heap.size + 1, 1, none⟩ = some (iV x.frm) ∧ w'.cell? ⟨w.heap.size + 1, 2, none⟩ = some (iV x.to) ∧ w'.cell? ⟨w.heap.size + 1, 3, none⟩ = some (iV x.time) ∧ w'.cell? ⟨w.heap.size + 1, 4, none⟩ = some (iV x.count) ∧ w'.cell? ⟨w.heap.size + 1, 5, none⟩ = some (iV x.root) ∧ w'.cell? ⟨w.heap.size + 1, 6, none⟩ = some (iV x.give) ∧ w'.cell? ⟨w.heap.size + 1, 7, none⟩ = some (iV x.take) ∧ w'.cell? ⟨w.heap.size, 8, none⟩ = some (sV x.label) ∧ w'.cell? ⟨w.heap.size, 9, none⟩ = some (iV x.index) ∧ w'.cell? ⟨w.heap.size, 10, none⟩ = some (.slice A x.path.length c))) (by kernel_rfl) (HSw.out _ ((b_drew (Below.refl W0.heap.size W0)))) (fun hHeld => ?_)
    refine wpAnyH_take (i := 0) (v := ?_) rfl (by kernel_rfl) (by kernel_rfl) (by kernel_rfl) (fun _ _ _ h => h) (Or.inl ⟨by kernel_rfl, ?_⟩) (by assumption) ?_
    rotate_left
    · (intro w hSw; (try dsimp only at hSw); go_simp; (try with_reducible rfl))
    refine wpAnyH_take (i := 3) (v := ?_) rfl (by kernel_rfl) (by kernel_rfl) (by kernel_rfl) (fun _ _ _ h => h) (Or.inl ⟨by kernel_rfl, ?_⟩) (by assumption) ?_
    rotate_left
    · (intro w hSw; (try dsimp only at hSw); go_simp; (try with_reducible rfl))
    refine wpAnyH_take (i := 5) (v := ?_) rfl (by kernel_rfl) (by kernel_rfl) (by kernel_rfl) (fun _ _ _ h => h) (Or.inl ⟨by kernel_rfl, ?_⟩) (by assumption) ?_
    rotate_left
    · (intro w hSw; (try dsimp only at hSw); go_simp; (try with_reducible rfl))
    refine wpAnyH_take (i := 7) (v := ?_) rfl (by kernel_rfl) (by kernel_rfl) (by kernel_rfl) (fun _ _ _ h => h) (Or.inl ⟨by kernel_rfl, ?_⟩) (by assumption) ?_
    rotate_left
    · (intro w hSw; (try dsimp only at hSw); go_simp; (try with_reducible rfl))
    refine wpAnyH_take (i := 9) (v := ?_) rfl (by kernel_rfl) (by kernel_rfl) (by kernel_rfl) (fun _ _ _ h => h) (Or.inl ⟨by kernel_rfl, ?_⟩) (by assumption) ?_
    rotate_left
    · (intro w hSw; (try dsimp only at hSw); go_simp; (try with_reducible rfl))
    refine wpAnyH_take (i := 11) (v := ?_) rfl (by kernel_rfl) (by kernel_rfl) (by kernel_rfl) (fun _ _ _ h => h) (Or.inl ⟨by kernel_rfl, ?_⟩) (by assumption) ?_
    rotate_left
    · (intro w hSw; (try dsimp only at hSw); go_simp; (try with_reducible rfl))
    refine wpAnyH_take (i := 13) (v := ?_) rfl (by kernel_rfl) (by kernel_rfl) (by kernel_rfl) (fun _ _ _ h => h) (Or.inl ⟨by kernel_rfl, ?_⟩) (by assumption) ?_
    rotate_left
    · (intro w hSw; (try dsimp only at hSw); go_simp; (try with_reducible rfl))
    refine wpAnyH_take (i := 15) (v := ?_) rfl (by kernel_rfl) (by kernel_rfl) (by kernel_rfl) (fun _ _ _ h => h) (Or.inl ⟨by kernel_rfl, ?_⟩) (by assumption) ?_
    rotate_left
    · (intro w hSw; (try dsimp only at hSw); go_simp; (try with_reducible rfl))
    refine wpAnyH_take (i := 1) (v := ?_) rfl (by kernel_rfl) (by kernel_rfl) (by kernel_rfl) (fun _ _ _ h => h) (Or.inl ⟨by kernel_rfl, ?_⟩) (by assumption) ?_
    rotate_left
    · (intro w hSw; (try dsimp only at hSw); go_simp; (try with_reducible rfl))
    refine wpAnyH_take (i := 4) (v := ?_) rfl (by kernel_rfl) (by kernel_rfl) (by kernel_rfl) (fun _ _ _ h => h) (Or.inl ⟨by kernel_rfl, ?_⟩) (by assumption) ?_
    rotate_left
    · (intro w hSw; (try dsimp only at hSw); go_simp; (try with_reducible rfl))
    refine wpAnyH_take (i := 6) (v := ?_) rfl (by kernel_rfl) (by kernel_rfl) (by kernel_rfl) (fun _ _ _ h => h) (Or.inl ⟨by kernel_rfl, ?_⟩) (by assumption) ?_
    rotate_left
    · (intro w hSw; (try dsimp only at hSw); go_simp; (try with_reducible rfl))
    refine wpAnyH_take (i := 8) (v := ?_) rfl (by kernel_rfl) (by kernel_rfl) (by kernel_rfl) (fun _ _ _ h => h) (Or.inl ⟨by kernel_rfl, ?_⟩) (by assumption) ?_
    rotate_left
    · (intro w hSw; (try dsimp only at hSw); go_simp; (try with_reducible rfl))
    refine wpAnyH_take (i := 10) (v := ?_) rfl (by kernel_rfl) (by kernel_rfl) (by kernel_rfl) (fun _ _ _ h => h) (Or.inl ⟨by kernel_rfl, ?_⟩) (by assumption) ?_
    rotate_left
    · (intro w hSw; (try dsimp only at hSw); go_simp; (try with_reducible rfl))
    refine wpAnyH_take (i := 12) (v := ?_) rfl (by kernel_rfl) (by kernel_rfl) (by kernel_rfl) (fun _ _ _ h => h) (Or.inl ⟨by kernel_rfl, ?_⟩) (by assumption) ?_
    rotate_left
    · (intro w hSw; (try dsimp only at hSw); go_simp; (try with_reducible rfl))
    refine wpAnyH_take (i := 14) (v := ?_) rfl (by kernel_rfl) (by kernel_rfl) (by kernel_rfl) (fun _ _ _ h => h) (Or.inl ⟨by kernel_rfl, ?_⟩) (by assumption) ?_
    rotate_left
    · (intro w hSw; (try dsimp only at hSw); go_simp; (try with_reducible rfl))
    refine wpAnyH_take (i := 16) (v := ?_) rfl (by kernel_rfl) (by kernel_rfl) (by kernel_rfl) (fun _ _ _ h => h) (Or.inl ⟨by kernel_rfl, ?_⟩) (by assumption) ?_
    rotate_left
    · (intro w hSw; (try dsimp only at hSw); go_simp; (try with_reducible rfl))
    refine wpAnyH_ready (rs := [2, 17]) (by kernel_rfl) (by simp) ?_
    refine AllReadyH.cons rfl (fun K hK => ?q1) (AllReadyH.cons rfl (fun K hK => ?q2) AllReadyH.nil)
    case q1 =>
      go_simp
      refine (ftext_any x.sl _ (by omega)).mono ?_
      rintro e w_q2 ⟨A_q2, c_q2, rfl, ho_q2, hb_q2⟩
      have HO_q2 := Lib.hid (own_base ho_q2 ((b_drew (Below.refl W0.heap.size W0))).size)
      have HN_q2 := Lib.hid (((b_drew (Below.refl W0.heap.size W0))).trans (hb_q2.mono ((b_drew (Below.refl W0.heap.size W0))).size))
      clear ho_q2 hb_q2
      go_wp2_with fail
      refine hK.out _ _ (HSw.out _ (HN_q2.out)) (fun hHeld => ?_)
      clear hK K
      refine wpAnyH_ready (rs := [17]) (by kernel_rfl) (by simp) ?_
      refine AllReadyH.cons rfl (fun K hK => ?_) AllReadyH.nil
      go_simp
      refine hK.out _ _ (HSw.out _ (((HN_q2.out).alloc (HN_q2.out).size _))) (fun hHeld => ?_)
      clear hK K
      refine wpAnyH_ready (rs := [18]) (by kernel_rfl) (by simp) ?_
      refine AllReadyH.cons rfl (fun K hK => ?_) AllReadyH.nil
      go_simp
      refine (fnumbers_any [x.frm, x.to, x.time, x.count, x.root, x.give, x.take] _ _ _ (own_rd ((show World.ownsRow (w_q2.alloc (.cells #[iV x.frm, iV x.to, iV x.time, iV x.count, iV x.root, iV x.give, iV x.take] 3)) _ _ _ _ _ _ from own_newL w_q2 [iV x.frm, iV x.to, iV x.time, iV x.count, iV x.root, iV x.give, iV x.take] 3 (by simp [maxLen])))) HXO.out.2.1 (by simp)).mono ?_
      rintro e w_q18 ⟨A_q18, c_q18, rfl, ho_q18, hb_q18⟩
      have HO_q18 := Lib.hid (own_base ho_q18 (((HN_q2.out).alloc (HN_q2.out).size _)).size)
      have HN_q18 := Lib.hid ((((HN_q2.out).alloc (HN_q2.out).size _)).trans (hb_q18.mono (((HN_q2.out).alloc (HN_q2.out).size _)).size))
      have HL_q18_2 := Lib.hid (own_lt ((World.ownsRow.alloc (HO_q2.out) _)) ho_q18)
      have HO_q18_2 := Lib.hid (own_below ((World.ownsRow.alloc (HO_q2.out) _)) hb_q18)
      have HR_q18_17 := Lib.hid (own_below ((show World.ownsRow (w_q2.alloc (.cells #[iV x.frm, iV x.to, iV x.time, iV x.count, iV x.root, iV x.give, iV x.take] 3)) _ _ _ _ _ _ from own_newL w_q2 [iV x.frm, iV x.to, iV x.time, iV x.count, iV x.root, iV x.give, iV x.take] 3 (by simp [maxLen]))) hb_q18)
      clear ho_q18 hb_q18
      go_wp2_with fail
      refine hK.out _ _ (HSw.out _ (HN_q18.out)) (fun hHeld => ?_)
      clear hK K
      refine wpAnyH_ready (rs := [19]) (by kernel_rfl) (by simp) ?_
      refine AllReadyH.cons rfl (fun K hK => ?_) AllReadyH.nil
      have hx_q19 := own_len (HO_q18_2.out)
      have hy_q19 := own_len (HO_q18.out)
      have HX_q19 := Lib.hid hx_q19
      have HY_q19 := Lib.hid hy_q19
      refine step_app (by rfl) _ _ _ _ (by rfl) W0.heap.size 5 i0 _ 1 1 Try.underlying38 hi0 hz0 hz1 hz2 (by rfl) _ ((txtB x.sl).length) _ (by rfl) (HO_q18_2.out) _ (by rfl) ((numsB [x.frm, x.to, x.time, x.count, x.root, x.give, x.take]).length) ((numsB [x.frm, x.to, x.time, x.count, x.root, x.give, x.take]).map bV) (src_rd Try.underlying38 (own_rd (HO_q18.out)) ((List.length_map _).trans hy_q19) (one_b _)) (by unfold maxLen; have := HT.out; have := numsB_len [x.frm, x.to, x.time, x.count, x.root, x.give, x.take]; simp at *; omega) (by have := HT.out; have := numsB_len [x.frm, x.to, x.time, x.count, x.root, x.give, x.take]; simp at *; omega) ((HN_q18.out).size) ?_
      clear hx_q19 hy_q19
      intro A_q19 c_q19 w_q19 ho_q19 hg_q19 _
      have HN_q19 := Lib.hid (app_below (HN_q18.out) (Nat.le_refl _) (HO_q18_2.out) (Nat.le_refl _) hg_q19)
      have HR_q19_17 := Lib.hid (own_near (HR_q18_17.out) hg_q19 (own_apart' (HR_q18_17.out) (HO_q18_2.out) (by decide)))
      have HO_q19 := Lib.hid (own_app ho_q19)
      clear ho_q19 hg_q19
      refine hK.out _ _ (HSw.out _ (HN_q19.out)) (fun hHeld => ?_)
      clear hK K
      refine wpAnyH_take (i := 20) (v := ?_) rfl (by kernel_rfl) (by kernel_rfl) (by kernel_rfl) (fun _ _ _ h => h) (Or.inl ⟨by kernel_rfl, ?_⟩) (by assumption) ?_
      rotate_left
      · (intro w hSw; (try dsimp only at hSw); go_simp; (try with_reducible rfl))
      refine wpAnyH_done (by kernel_rfl) ?_ _
      refine NoPanic.normal ?_
      go_wp2_with fail
      go_meet
      exact ⟨_, _, _, rfl, Lib.hid (HO_q19.out), Lib.hid (HN_q19.out)⟩
    case q2 =>
      go_simp
      refine hK.out _ _ (HSw.out _ ((((b_drew (Below.refl W0.heap.size W0))).alloc ((b_drew (Below.refl W0.heap.size W0))).size _))) (fun hHeld => ?_)
      clear hK K
      refine wpAnyH_ready (rs := [2]) (by kernel_rfl) (by simp) ?_
      refine AllReadyH.cons rfl (fun K hK => ?_) AllReadyH.nil
      go_simp
      refine (ftext_any x.sl _ (by omega)).mono ?_
      rintro e w_q2 ⟨A_q2, c_q2, rfl, ho_q2, hb_q2⟩
      have HO_q2 := Lib.hid (own_base ho_q2 ((((b_drew (Below.refl W0.heap.size W0))).alloc ((b_drew (Below.refl W0.heap.size W0))).size _)).size)
      have HN_q2 := Lib.hid (((((b_drew (Below.refl W0.heap.size W0))).alloc ((b_drew (Below.refl W0.heap.size W0))).size _)).trans (hb_q2.mono ((((b_drew (Below.refl W0.heap.size W0))).alloc ((b_drew (Below.refl W0.heap.size W0))).size _)).size))
      have HR_q2_17 := Lib.hid (own_below ((show World.ownsRow (W0.alloc (.cells #[iV x.frm, iV x.to, iV x.time, iV x.count, iV x.root, iV x.give, iV x.take] 3)).drew _ _ _ _ _ _ from own_newL W0 [iV x.frm, iV x.to, iV x.time, iV x.count, iV x.root, iV x.give, iV x.take] 3 (by simp [maxLen]))) hb_q2)
      clear ho_q2 hb_q2
      go_wp2_with fail
      refine hK.out _ _ (HSw.out _ (HN_q2.out)) (fun hHeld => ?_)
      clear hK K
      refine wpAnyH_ready (rs := [18]) (by kernel_rfl) (by simp) ?_
      refine AllReadyH.cons rfl (fun K hK => ?_) AllReadyH.nil
      go_simp
      refine (fnumbers_any [x.frm, x.to, x.time, x.count, x.root, x.give, x.take] _ _ _ (own_rd (HR_q2_17.out)) HXO.out.2.1 (by simp)).mono ?_
      rintro e w_q18 ⟨A_q18, c_q18, rfl, ho_q18, hb_q18⟩
      have HO_q18 := Lib.hid (own_base ho_q18 (HN_q2.out).size)
      have HN_q18 := Lib.hid ((HN_q2.out).trans (hb_q18.mono (HN_q2.out).size))
      have HL_q18_2 := Lib.hid (own_lt (HO_q2.out) ho_q18)
      have HO_q18_2 := Lib.hid (own_below (HO_q2.out) hb_q18)
      have HR_q18_17 := Lib.hid (own_below (HR_q2_17.out) hb_q18)
      clear ho_q18 hb_q18
      go_wp2_with fail
      refine hK.out _ _ (HSw.out _ (HN_q18.out)) (fun hHeld => ?_)
      clear hK K
      refine wpAnyH_ready (rs := [19]) (by kernel_rfl) (by simp) ?_
      refine AllReadyH.cons rfl (fun K hK => ?_) AllReadyH.nil
      have hx_q19 := own_len (HO_q18_2.out)
      have hy_q19 := own_len (HO_q18.out)
      have HX_q19 := Lib.hid hx_q19
      have HY_q19 := Lib.hid hy_q19
      refine step_app (by rfl) _ _ _ _ (by rfl) W0.heap.size 5 i0 _ 1 1 Try.underlying38 hi0 hz0 hz1 hz2 (by rfl) _ ((txtB x.sl).length) _ (by rfl) (HO_q18_2.out) _ (by rfl) ((numsB [x.frm, x.to, x.time, x.count, x.root, x.give, x.take]).length) ((numsB [x.frm, x.to, x.time, x.count, x.root, x.give, x.take]).map bV) (src_rd Try.underlying38 (own_rd (HO_q18.out)) ((List.length_map _).trans hy_q19) (one_b _)) (by unfold maxLen; have := HT.out; have := numsB_len [x.frm, x.to, x.time, x.count, x.root, x.give, x.take]; simp at *; omega) (by have := HT.out; have := numsB_len [x.frm, x.to, x.time, x.count, x.root, x.give, x.take]; simp at *; omega) ((HN_q18.out).size) ?_
      clear hx_q19 hy_q19
      intro A_q19 c_q19 w_q19 ho_q19 hg_q19 _
      have HN_q19 := Lib.hid (app_below (HN_q18.out) (Nat.le_refl _) (HO_q18_2.out) (Nat.le_refl _) hg_q19)
      have HR_q19_17 := Lib.hid (own_near (HR_q18_17.out) hg_q19 (own_apart' (HR_q18_17.out) (HO_q18_2.out) (by decide)))
      have HO_q19 := Lib.hid (own_app ho_q19)
      clear ho_q19 hg_q19
      refine hK.out _ _ (HSw.out _ (HN_q19.out)) (fun hHeld => ?_)
      clear hK K
      refine wpAnyH_take (i := 20) (v := ?_) rfl (by kernel_rfl) (by kernel_rfl) (by kernel_rfl) (fun _ _ _ h => h) (Or.inl ⟨by kernel_rfl, ?_⟩) (by assumption) ?_
      rotate_left
      · (intro w hSw; (try dsimp only at hSw); go_simp; (try with_reducible rfl))
      refine wpAnyH_done (by kernel_rfl) ?_ _
      refine NoPanic.normal ?_
      go_wp2_with fail
      go_meet
      exact ⟨_, _, _, rfl, Lib.hid (HO_q19.out), Lib.hid (HN_q19.out)⟩
  case rest =>
    obtain ⟨A1, m1, c1, rfl, HO, HN⟩ := hcut
    have HL1 : Hid (m1 ≤ 70000) := by show _ ≤ _; have h0 := own_len HO.out; have h1 := HT.out; have h2 := numsB_len [x.frm, x.to, x.time, x.count, x.root, x.give, x.take]; rw [← h0, List.length_append, h1, h2]; simp; omega
    go_wp2_with fail
    refine wp_region_noPanic ?_
    refine wp_region_held_drew (S := (fun w' => w'.cell? ⟨w.heap.size + 1, 0, none⟩ = some (sV x.sl) ∧ w'.cell? ⟨w.heap.size + 1, 1, none⟩ = some (iV x.frm) ∧ w'.cell? ⟨w.heap.size + 1, 2, none⟩ = some (iV x.to) ∧ w'.cell? ⟨w.heap.size + 1, 3, none⟩ = some (iV x.time) ∧ w'.cell? ⟨w.heap.size + 1, 4, none⟩ = some (iV x.count) ∧ w'.cell? ⟨w.heap.size + 1, 5, none⟩ = some (iV x.root) ∧ w'.cell? ⟨w.heap.size + 1, 6, none⟩ = some (iV x.give) ∧ w'.cell? ⟨w.heap.size + 1, 7, none⟩ = some (iV x.take) ∧ w'.cell? ⟨w.heap.size, 8, none⟩ = some (sV x.label) ∧ w'.cell? ⟨w.heap.size, 9, none⟩ = some (iV x.index) ∧ w'.cell? ⟨w.heap.size, 10, none⟩ = some (.slice A x.path.length c))) (by kernel_rfl) (HSw.out _ ((b_drew (HN.out)))) (fun hHeld => ?_)
    refine wpAnyH_take (i := 0) (v := ?_) rfl (by kernel_rfl) (by kernel_rfl) (by kernel_rfl) (fun _ _ _ h => h) (Or.inl ⟨by kernel_rfl, ?_⟩) (by assumption) ?_
    rotate_left
    · (intro w hSw; (try dsimp only at hSw); go_simp; (try with_reducible rfl))
    refine wpAnyH_take (i := 1) (v := ?_) rfl (by kernel_rfl) (by kernel_rfl) (by kernel_rfl) (fun _ _ _ h => h) (Or.inl ⟨by kernel_rfl, ?_⟩) (by assumption) ?_
    rotate_left
    · (intro w hSw; (try dsimp only at hSw); go_simp; (try with_reducible rfl))
    refine wpAnyH_take (i := 5) (v := ?_) rfl (by kernel_rfl) (by kernel_rfl) (by kernel_rfl) (fun _ _ _ h => h) (Or.inl ⟨by kernel_rfl, ?_⟩) (by assumption) ?_
    rotate_left
    · (intro w hSw; (try dsimp only at hSw); go_simp; (try with_reducible rfl))
    refine wpAnyH_take (i := 2) (v := ?_) rfl (by kernel_rfl) (by kernel_rfl) (by kernel_rfl) (fun _ _ _ h => h) (Or.inl ⟨by kernel_rfl, ?_⟩) (by assumption) ?_
    rotate_left
    · (intro w hSw; (try dsimp only at hSw); go_simp; (try with_reducible rfl))
    refine wpAnyH_take (i := 6) (v := ?_) rfl (by kernel_rfl) (by kernel_rfl) (by kernel_rfl) (fun _ _ _ h => h) (Or.inl ⟨by kernel_rfl, ?_⟩) (by assumption) ?_
    rotate_left
    · (intro w hSw; (try dsimp only at hSw); go_simp; (try with_reducible rfl))
    refine wpAnyH_take (i := 7) (v := ?_) rfl (by kernel_rfl) (by kernel_rfl) (by kernel_rfl) (fun _ _ _ h => h) (Or.inl ⟨by kernel_rfl, ?_⟩) (by assumption) ?_
    rotate_left
    · (intro w hSw; (try dsimp only at hSw); go_simp; (try with_reducible rfl))
    refine wpAnyH_ready (rs := [3]) (by kernel_rfl) (by simp) ?_
    refine AllReadyH.cons rfl (fun K hK => ?_) AllReadyH.nil
    go_simp
    refine (ftext_any x.label _ (by omega)).mono ?_
    rintro e w_r3 ⟨A_r3, c_r3, rfl, ho_r3, hb_r3⟩
    have HO_r3 := Lib.hid (own_base ho_r3 ((b_drew (HN.out))).size)
    have HN_r3 := Lib.hid (((b_drew (HN.out))).trans (hb_r3.mono ((b_drew (HN.out))).size))
    have HL_r3_0 := Lib.hid (own_lt ((World.ownsRow.drew (HO.out))) ho_r3)
    have HO_r3_0 := Lib.hid (own_below ((World.ownsRow.drew (HO.out))) hb_r3)
    clear ho_r3 hb_r3
    go_wp2_with fail
    refine hK.out _ _ (HSw.out _ (HN_r3.out)) (fun hHeld => ?_)
    clear hK K
    refine wpAnyH_ready (rs := [4]) (by kernel_rfl) (by simp) ?_
    refine AllReadyH.cons rfl (fun K hK => ?_) AllReadyH.nil
    have hx_r4 := own_len (HO_r3_0.out)
    have hy_r4 := own_len (HO_r3.out)
    have HX_r4 := Lib.hid hx_r4
    have HY_r4 := Lib.hid hy_r4
    refine step_app (by rfl) _ _ _ _ (by rfl) W0.heap.size 5 i0 _ 1 1 Try.underlying38 hi0 hz0 hz1 hz2 (by rfl) _ (m1) _ (by rfl) (HO_r3_0.out) _ (by rfl) ((txtB x.label).length) ((txtB x.label).map bV) (src_rd Try.underlying38 (own_rd (HO_r3.out)) ((List.length_map _).trans hy_r4) (one_b _)) (by unfold maxLen; have := HL1.out; have := HT2.out; omega) (by have := HL1.out; have := HT2.out; omega) ((HN_r3.out).size) ?_
    clear hx_r4 hy_r4
    intro A_r4 c_r4 w_r4 ho_r4 hg_r4 _
    have HN_r4 := Lib.hid (app_below (HN_r3.out) (Nat.le_refl _) (HO_r3_0.out) (Nat.le_refl _) hg_r4)
    have HO_r4 := Lib.hid (own_app ho_r4)
    clear ho_r4 hg_r4
    refine hK.out _ _ (HSw.out _ (HN_r4.out)) (fun hHeld => ?_)
    clear hK K
    refine wpAnyH_ready (rs := [8]) (by kernel_rfl) (by simp) ?_
    refine AllReadyH.cons rfl (fun K hK => ?_) AllReadyH.nil
    go_simp
    refine (fnumber_any x.index _ (HXO.out.2.2.2.1 _ (by simp))).mono ?_
    rintro e w_r8 ⟨A_r8, c_r8, rfl, ho_r8, hb_r8⟩
    have HO_r8 := Lib.hid (own_base ho_r8 (HN_r4.out).size)
    have HN_r8 := Lib.hid ((HN_r4.out).trans (hb_r8.mono (HN_r4.out).size))
    have HL_r8_4 := Lib.hid (own_lt (HO_r4.out) ho_r8)
    have HO_r8_4 := Lib.hid (own_below (HO_r4.out) hb_r8)
    clear ho_r8 hb_r8
    go_wp2_with fail
    refine hK.out _ _ (HSw.out _ (HN_r8.out)) (fun hHeld => ?_)
    clear hK K
    refine wpAnyH_ready (rs := [9]) (by kernel_rfl) (by simp) ?_
    refine AllReadyH.cons rfl (fun K hK => ?_) AllReadyH.nil
    have hx_r9 := own_len (HO_r8_4.out)
    have hy_r9 := own_len (HO_r8.out)
    have HX_r9 := Lib.hid hx_r9
    have HY_r9 := Lib.hid hy_r9
    refine step_app (by rfl) _ _ _ _ (by rfl) W0.heap.size 5 i0 _ 1 1 Try.underlying38 hi0 hz0 hz1 hz2 (by rfl) _ (m1 + (txtB x.label).length) _ (by rfl) (HO_r8_4.out) _ (by rfl) ((numB x.index).length) ((numB x.index).map bV) (src_rd Try.underlying38 (own_rd (HO_r8.out)) ((List.length_map _).trans hy_r9) (one_b _)) (by unfold maxLen; have := HL1.out; have := HT2.out; have : (numB x.index).length = 8 := rfl; omega) (by have := HL1.out; have := HT2.out; have : (numB x.index).length = 8 := rfl; omega) ((HN_r8.out).size) ?_
    clear hx_r9 hy_r9
    intro A_r9 c_r9 w_r9 ho_r9 hg_r9 _
    have HN_r9 := Lib.hid (app_below (HN_r8.out) (Nat.le_refl _) (HO_r8_4.out) (Nat.le_refl _) hg_r9)
    have HO_r9 := Lib.hid (own_app ho_r9)
    clear ho_r9 hg_r9
    refine hK.out _ _ (HSw.out _ (HN_r9.out)) (fun hHeld => ?_)
    clear hK K
    refine wpAnyH_take (i := 10) (v := ?_) rfl (by kernel_rfl) (by kernel_rfl) (by kernel_rfl) (fun _ _ _ h => h) (Or.inl ⟨by kernel_rfl, ?_⟩) (by assumption) ?_
    rotate_left
    · (intro w hSw; (try dsimp only at hSw); go_simp; (try with_reducible rfl))
    refine wpAnyH_done (by kernel_rfl) ?_ _
    refine NoPanic.normal ?_
    obtain ⟨N5, hN5⟩ : ∃ N, N = m1 + (txtB x.label).length + (numB x.index).length := ⟨_, rfl⟩
    have HO5 := Lib.hid (HO_r9.out)
    have HN5 := Lib.hid (HN_r9.out)
    rw [← hN5] at HO5 ⊢
    have HL5 : Hid (N5 ≤ 140000) := by show _ ≤ _; have h1 := HT2.out; have h3 := HL1.out; have : (numB x.index).length = 8 := rfl; omega
    clear hN5
    obtain ⟨_, _, _, _, _, _, _, _, _, _, k10_⟩ := HSw.out _ HN5.out
    go_upto_region 5 with (first
      | (go_at_call 67; refine (flength_any x.path.length _ (by unfold maxLen; omega)).mono ?_; rintro e w6 ⟨A6, c6, rfl, ho, hb⟩; have HO6 := Lib.hid ho; have HN6 := Lib.hid (HN5.out.trans (hb.mono HN5.out.size)); have HOO6 := Lib.hid (own_below HO5.out hb); clear ho hb)
      | (at_builtin; refine wpList_app (by rfl) _ _ _ _ (by rfl) W0.heap.size 5 i0 _ 1 1 Try.underlying38 hi0 hz0 hz1 hz2 (by rfl) _ N5 _ (by rfl) HOO6.out _ (by rfl) 2 ((lenB x.path.length).map bV) (src_rd Try.underlying38 (own_rd HO6.out) (by rfl) (one_b _)) (by have := HL5.out; unfold maxLen; omega) (by have := HL5.out; omega) HN6.out.size ?_; intro A7 c7 w7 ho hg _; have HN7 := Lib.hid (app_below HN6.out (Nat.le_refl _) HOO6.out (Nat.le_refl _) hg); have HO7 := Lib.hid (own_app ho); clear ho hg)
      | fail)
    clear k10_
    obtain ⟨_, _, _, _, _, _, _, _, _, _, k10_⟩ := HSw.out _ HN7.out
    have HA7 : Hid (Rd w7 A (x.path.map iV)) := HA.out.below (HB1.out.trans (HN7.out.mono HB1.out.size))
    go_wp2_with (first
      | (go_at_call 54; refine (fnumbers_any x.path A c _ HA7.out HXO.out.2.2.2.2.2 (by omega)).mono ?_; rintro e w8 ⟨A8, c8, rfl, ho, hb⟩; have HO8 := Lib.hid ho; have HN8 := Lib.hid (HN7.out.trans (hb.mono HN7.out.size)); have HOO8 := Lib.hid (own_below HO7.out hb); clear ho hb)
      | (at_builtin; refine wpList_app (by rfl) _ _ _ _ (by rfl) W0.heap.size 5 i0 _ 1 1 Try.underlying38 hi0 hz0 hz1 hz2 (by rfl) _ (N5 + 2) _ (by rfl) HOO8.out _ (by rfl) (numsB x.path).length ((numsB x.path).map bV) (src_rd Try.underlying38 (own_rd HO8.out) (List.length_map _) (one_b _)) (by have := HL5.out; have := numsB_len x.path; unfold maxLen; omega) (by have := HL5.out; have := numsB_len x.path; omega) HN8.out.size ?_; intro A9 c9 w9 ho hg _; have HN9 := Lib.hid (app_below HN8.out (Nat.le_refl _) HOO8.out (Nat.le_refl _) hg); have HO9 := Lib.hid (own_app ho); clear ho hg)
      | fail)
    go_ret
    exact own_b HB1.out HN9.out HO9.out rfl (by unfold paperB; simp only [List.append_assoc, numsB_cons, numsB_nil, List.append_nil])
end Go.Proofs.Ytoaembpakmpolaa
