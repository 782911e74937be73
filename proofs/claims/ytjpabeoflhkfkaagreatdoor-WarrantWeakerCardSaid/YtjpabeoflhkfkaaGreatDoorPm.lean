/-
  The walk over the writer's keep. The walks over the small tests of warrant: inside, formed$1, lineFrom$1. The walk over warrant.square. The walk over warrant.formed.
-/
import Derived.Test.YtjpabeoflhkfkaaGreatDoorPl
namespace Go.Proofs.YtjpabeoflhkfkaaGreatDoor
open Go.RowKit
attribute [local go_sem] Oper.semAt_some

theorem cutsF_len (c : Cal) (m till : Int) : ∀ (f : Nat) (t : Int), (cutsF c m till f t).length ≤ f
  | 0, _ => Nat.le_refl _
  | f + 1, t => by
    unfold cutsF
    split
    · have := cutsF_len c m till f ((firstR c m t).1 + 1)
      simp only [List.length_cons]; omega
    · simp
theorem keepF_step {n : Net} {nx : List NsC} {fr : Int} {k o d : Nat} {pr : Int} {L : List Int} {j : Nat} {t : Int} (ht : L[j]? = some t) :
    keepF n nx fr k o d pr (L.drop j) = keepF n nx fr k o d pr (t :: L.drop (j + 1)) := by
  obtain ⟨hj, rfl⟩ := List.getElem?_eq_some_iff.1 ht
  rw [List.drop_eq_getElem_cons hj]
theorem keepF_nil {n : Net} {nx : List NsC} {fr : Int} {k o d : Nat} {pr : Int} : ∀ L : List Int, (keepF n nx fr k o d pr L).1 ≠ 0 → (keepF n nx fr k o d pr L).2 = []
  | [], h => absurd rfl h
  | t :: L, h => by
    unfold keepF at h ⊢
    split
    · rfl
    · split
      · rfl
      · split
        · rfl
        · rename_i a b c
          rw [if_neg a, if_neg b, if_neg c] at h
          dsimp only at h ⊢
          split
          · rfl
          · rename_i e
            rw [if_neg e] at h
            exact absurd rfl h
theorem FrW.put {B : Nat} {v v' : Value} {W X Y : World} {r : Nat} (h : FrW B v v' W X) (hr : W.heap.size ≤ r) (hg : X.grownBy Y (some r)) : FrW B v v' W Y :=
  ⟨Nat.le_trans h.1 hg.size, fun b hb e1 e2 => by
    obtain ⟨g1, g2⟩ := h.2 b hb e1 e2
    exact ⟨(hg.block b (by have := h.1; omega) (fun e => by cases e; omega)).trans g1, g2⟩⟩
theorem cell_keepW {w w' : World} (hb : Below w.heap.size w w') {b i : Nat} {v : Value} (h : w.cell? ⟨b, i, none⟩ = some v) : w'.cell? ⟨b, i, none⟩ = some v := (hb.cell (p := ⟨b, i, none⟩) (World.block_lt_of_cell? w _ h)).trans h
/-- What has been done, and the rest. -/
def afterW (ds : List Int) (r : Int × List Int) : Int × List Int := if r.1 ≠ 0 then (r.1, []) else (0, ds ++ r.2)
/-- A number of the table of days, in the world that has the table. -/
structure DayAt (w0 : World) (dv : Value) (k o d : Nat) (pr : Int) : Prop where
  at_ : ∃ D1 D2 dl dc E1 E2 el ec F1 F2 fl fc, dv = .slice (some ⟨D1, D2, none⟩) dl dc ∧ k < dl ∧ o < el ∧ d < fl ∧ dl ≤ 1000 ∧ el ≤ 1000 ∧ fl ≤ 1000 ∧ D1 < w0.heap.size ∧ E1 < w0.heap.size ∧ F1 < w0.heap.size ∧ w0.cell? ⟨D1, D2 + k, none⟩ = some (.slice (some ⟨E1, E2, none⟩) el ec) ∧ w0.cell? ⟨E1, E2 + o, none⟩ = some (.slice (some ⟨F1, F2, none⟩) fl fc) ∧ w0.cell? ⟨F1, F2 + d, none⟩ = some (iV pr)
def KeepW (base : Nat) (W : World) (B : Nat) (n : Net) (fr till : Int) (nv dv v : Value) (xs : List Int) (r : Int × List Int) (e : Ending) (W' : World) : Prop :=
  (r.1 = 0 ∧ e = .returned (.tuple #[]) ∧ ∃ v', WrS base W' B n fr till nv dv v' (xs ++ r.2) ∧ FrW B v v' W W' ∧ Below base W W') ∨ (r.1 ≠ 0 ∧ e = FailE r.1 ∧ ∃ v', FrW B v v' W W' ∧ Below base W W')
/-- What a round keeps; w2: the world ahead of the loop. -/
def KeI (base : Nat) (w2 : World) (B : Nat) (n : Net) (fr till : Int) (nx : List NsC) (nv dv v : Value) (xs : List Int) (k o d : Nat) (pr : Int) (L : List Int) (j : Nat) (W : World) : Prop :=
  ∃ v' ds, WrS base W B n fr till nv dv v' (xs ++ ds) ∧ FrW B v v' w2 W ∧ Below base w2 W ∧ (∀ r, r = w2.heap.size ∨ r = w2.heap.size + 1 → v'.ownBlock ≠ some r) ∧ ds.length ≤ 20 * j ∧ keepF n nx fr k o d pr L = afterW ds (keepF n nx fr k o d pr (L.drop j))
def KeP (base : Nat) (w2 : World) (B : Nat) (n : Net) (fr : Int) (nx : List NsC) (v : Value) (k o d : Nat) (pr : Int) (L : List Int) (ch : List PanicEntry) (W : World) : Prop :=
  ∃ v' y, ch = [{ v := .iface 44 (iV y), recovered := false }] ∧ y ≠ 0 ∧ FrW B v v' w2 W ∧ Below base w2 W ∧ keepF n nx fr k o d pr L = (y, [])
theorem KeI.grown {base : Nat} {w2 : World} {B : Nat} {n : Net} {fr till : Int} {nx : List NsC} {nv dv v : Value} {xs : List Int} {k o d : Nat} {pr : Int} {L : List Int} {j : Nat} {W W' : World} {r : Nat} (h : KeI base w2 B n fr till nx nv dv v xs k o d pr L j W) (hB : B < w2.heap.size) (hb : base ≤ w2.heap.size) (hg : W.grownBy W' (some r)) (hr : r = w2.heap.size ∨ r = w2.heap.size + 1) : KeI base w2 B n fr till nx nv dv v xs k o d pr L j W' := by
  obtain ⟨v', ds, h1, h2, h3, h4, h5⟩ := h
  refine ⟨v', ds, ⟨?_, ?_, Nat.le_trans h1.le hg.size⟩, ⟨Nat.le_trans h2.1 hg.size, fun b hb' e1 e2 => ?_⟩, h3.grown hg h1.le (fun k e => by cases e; rcases hr with rfl | rfl <;> omega), h4, h5⟩
  · exact (hg.block B (block_lt h1.row) (fun e => by cases e; rcases hr with h | h <;> omega)).trans h1.row
  · exact own_kept2 h1.own (fun g e => hg.block g (own_lt h1.own e) (fun e' => by cases e'; exact h4 _ hr e))
  · obtain ⟨g1, g2⟩ := h2.2 b hb' e1 e2
    exact ⟨(hg.block b (by have := h2.1; omega) (fun e => by cases e; rcases hr with h | h <;> omega)).trans g1, g2⟩
theorem KeI.below {base : Nat} {w2 : World} {B : Nat} {n : Net} {fr till : Int} {nx : List NsC} {nv dv v : Value} {xs : List Int} {k o d : Nat} {pr : Int} {L : List Int} {j : Nat} {W W' : World} (h : KeI base w2 B n fr till nx nv dv v xs k o d pr L j W) (hb : Below W.heap.size W W') : KeI base w2 B n fr till nx nv dv v xs k o d pr L j W' := by
  obtain ⟨v', ds, h1, h2, h3, h4⟩ := h
  exact ⟨v', ds, h1.below hb, h2.trans (FrW.of_below hb), h3.trans (hb.mono h1.le), h4⟩
set_option maxHeartbeats 8000000 in
set_option maxRecDepth 100000 in
theorem keep_any (w0 : World) (B : Nat) (n : Net) (fr till : Int) (A : Option Addr) (c : Nat) (nx : List NsC) (dv v : Value) (xs : List Int) (k o d : Nat) (pr : Int) (W : World)
    (hn : NetIn w0 n) (hT : Tab w0 A nx) (hD : DayAt w0 dv k o d pr) (h0 : Same0 w0 W) (hG : Good n) (hF : Formed n nx) (hW : WrS w0.heap.size W B n fr till (.slice A nx.length c) dv v xs) (hB : w0.heap.size ≤ B) (hk : k < n.clss.length) (ho : o < n.offs.length) (hd : d < n.offs.length) (hf : 0 ≤ fr ∧ fr ≤ 600) (ht : 0 ≤ till ∧ till ≤ 600) (hl : xs.length ≤ 800000000) :
    Calls Tryz.prog 37 #[.pointer (some ⟨B, 0, none⟩), iV k, iV o, iV d] W (KeepW w0.heap.size W B n fr till (.slice A nx.length c) dv v xs (keepR n nx fr till k o d pr)) := by
  refine calls_of_at Tryz.func37 rfl ?_
  simp only [Tryz.ntmps37, List.size_toArray, List.length_cons, List.length_nil, Nat.reduceAdd, Nat.reduceSub, Array.replicate_succ, Array.replicate_zero, List.push_toArray, List.append_toArray, List.nil_append, List.cons_append]
  have HN := Lib.hid hn
  have HT := Lib.hid hT
  have HD := Lib.hid hD
  have H0 := Lib.hid h0
  have HG := Lib.hid hG
  have HF := Lib.hid hF
  have HW := Lib.hid hW
  clear hn hT hD h0 hG hF hW
  refine wpAt_seq (wpAt_of ?_)
  go_wp2
  obtain ⟨Wk, hWk⟩ : ∃ Wk, Wk = ((((W.alloc (.cells #[.pointer (some ⟨B, 0, none⟩)] 85)).alloc (.cells #[iV k] 3)).alloc (.cells #[iV o] 3)).alloc (.cells #[iV d] 3)) := ⟨_, rfl⟩
  have hbk : Below W.heap.size W Wk := by
    rw [hWk]
    exact ((((Below.refl _ W).alloc (Nat.le_refl _) _).alloc (by simp) _).alloc (by simp; omega) _).alloc (by simp; omega) _
  have hX : Wk.heap[W.heap.size]? = some (.cells #[.pointer (some ⟨B, 0, none⟩)] 85 (0, 0)) ∧ Wk.heap[W.heap.size + 1]? = some (.cells #[iV k] 3 (0, 0)) ∧ Wk.heap[W.heap.size + 1 + 1]? = some (.cells #[iV o] 3 (0, 0)) ∧ Wk.heap[W.heap.size + 1 + 1 + 1]? = some (.cells #[iV d] 3 (0, 0)) := by
    have c1 := heap_alloc_new W (.cells #[.pointer (some ⟨B, 0, none⟩)] 85)
    have c2 := heap_alloc_new (W.alloc (.cells #[.pointer (some ⟨B, 0, none⟩)] 85)) (.cells #[iV k] 3)
    have c3 := heap_alloc_new ((W.alloc (.cells #[.pointer (some ⟨B, 0, none⟩)] 85)).alloc (.cells #[iV k] 3)) (.cells #[iV o] 3)
    have c4 := heap_alloc_new (((W.alloc (.cells #[.pointer (some ⟨B, 0, none⟩)] 85)).alloc (.cells #[iV k] 3)).alloc (.cells #[iV o] 3)) (.cells #[iV d] 3)
    simp only [World.size_alloc] at c2 c3 c4
    rw [hWk]
    exact ⟨(Below.heap_alloc _ _ _ (by simp <;> omega)).trans ((Below.heap_alloc _ _ _ (by simp <;> omega)).trans ((Below.heap_alloc _ _ _ (by simp)).trans c1)), (Below.heap_alloc _ _ _ (by simp <;> omega)).trans ((Below.heap_alloc _ _ _ (by simp)).trans c2), (Below.heap_alloc _ _ _ (by simp)).trans c3, c4⟩
  change wpAt _ _ _ _ _ ((((W.alloc (.cells #[.pointer (some ⟨B, 0, none⟩)] 85)).alloc (.cells #[iV k] 3)).alloc (.cells #[iV o] 3)).alloc (.cells #[iV d] 3))
  rw [← hWk]
  have HWK := Lib.hid hWk
  have HBK := Lib.hid hbk
  have HX := Lib.hid hX
  have HWk := Lib.hid (HW.out.below hbk)
  have HZk := Lib.hid (H0.out.below hbk)
  have HPk : Hid (NetP Wk B n) := ⟨HWk.out.box, HN.out.old HZk.out.1 HZk.out.2⟩
  have s1 : Wk.cell? ⟨W.heap.size, 0, none⟩ = some (.pointer (some ⟨B, 0, none⟩)) := cell_of_row _ _ 0 _ _ _ HX.out.1
  have s2 : Wk.cell? ⟨W.heap.size + 1, 0, none⟩ = some (iV k) := cell_of_row _ _ 0 _ _ _ HX.out.2.1
  have s3 : Wk.cell? ⟨W.heap.size + 1 + 1, 0, none⟩ = some (iV o) := cell_of_row _ _ 0 _ _ _ HX.out.2.2.1
  clear hWk hbk hX
  refine wpAt_seq (wpAt_of ?_)
  go_wp2_with fail
  refine (wcutoffs_any B n o k fr till Wk HPk.out (cell_of_row _ _ 6 _ _ _ HWk.out.row) (cell_of_row _ _ 7 _ _ _ HWk.out.row)).mono ?_
  rintro e w2 ⟨P2, P3, P4, rfl, hcu, hb, hP⟩
  have HW2 := Lib.hid (HWk.out.below hb)
  have HZ2 := Lib.hid (HZk.out.below hb)
  have HCU := Lib.hid hcu
  have HP := Lib.hid hP
  have HX2 : Hid (w2.heap[W.heap.size]? = some (.cells #[.pointer (some ⟨B, 0, none⟩)] 85 (0, 0)) ∧ w2.heap[W.heap.size + 1]? = some (.cells #[iV k] 3 (0, 0)) ∧ w2.heap[W.heap.size + 1 + 1]? = some (.cells #[iV o] 3 (0, 0)) ∧ w2.heap[W.heap.size + 1 + 1 + 1]? = some (.cells #[iV d] 3 (0, 0))) :=
    ⟨(hb.block _ (block_lt HX.out.1)).trans HX.out.1, (hb.block _ (block_lt HX.out.2.1)).trans HX.out.2.1, (hb.block _ (block_lt HX.out.2.2.1)).trans HX.out.2.2.1, (hb.block _ (block_lt HX.out.2.2.2)).trans HX.out.2.2.2⟩
  have HB2 := Lib.hid (bt HBK.out hb)
  clear hcu hP hb s1 s2 s3 HX
  go_wp2_with fail
  refine wpAt_block ?_
  generalize hL : cuts (calAt n o) (clsAt n k).cut (1440 * till) (1440 * fr) = L
  have HLL := Lib.hid hL; clear hL
  have hseq := wcuts_seq w0 n B P2 P3 P4 o k fr till w2 HN.out HZ2.out HG.out hk ho HCU.out hf.1 hf.2 ht.2 ht.1
  rw [HLL.out] at hseq
  have HSEQ := Lib.hid hseq; clear hseq
  have hPl : P2 < w2.heap.size ∧ P3 < w2.heap.size ∧ P4 < w2.heap.size := ⟨World.block_lt_of_cell? w2 _ HCU.out.b2, World.block_lt_of_cell? w2 _ HCU.out.b3, World.block_lt_of_cell? w2 _ HCU.out.b4⟩
  have hBl : B < w2.heap.size := block_lt HW2.out.row
  have HLE := Lib.hid HW2.out.le
  have hLn : L.length ≤ 864000 := by
    rw [← HLL.out]
    unfold cuts
    exact Nat.le_trans (cutsF_len _ _ _ _ _) (by omega)
  have HPL := Lib.hid (And.intro hPl (And.intro hBl hLn))
  have HNE : Hid (∀ r, r = w2.heap.size ∨ r = w2.heap.size + 1 → v.ownBlock ≠ some r) := fun r hr e => by
    have := own_lt HW2.out.own e
    rcases hr with rfl | rfl <;> omega
  clear hPl hBl hLn
  refine wp_seqR Tryz.func37 (gf := 124) (lb := #[.pointer (some ⟨P2, 0, none⟩), .pointer (some ⟨P3, 0, none⟩), .pointer (some ⟨P4, 0, none⟩)]) (by rfl) (fun _ _ => rfl) HSEQ.out (fun _ _ _ => KwR.trans _ _ _)
    (fun X Y r hz hg hr => by
      have h1 := HPL.out
      have h2 := HLE.out
      have hne : ∀ b, b < w2.heap.size → some b ≠ some r := fun b hb e => by cases e; rcases hr with h | h <;> omega
      exact ⟨hg.size, fun b hb => hg.block b (by omega) (hne b (by omega)), hg.block P2 (by omega) (hne P2 h1.1.1), hg.block P3 (by omega) (hne P3 h1.1.2.1), hg.block P4 (by omega) (hne P4 h1.1.2.2), fun i _ => cell_same (hg.block B (by omega) (hne B h1.2.1))⟩) (fun _ => rfl)
    (KeI w0.heap.size w2 B n fr till nx (.slice A nx.length c) dv v xs k o d pr L)
    (KeP w0.heap.size w2 B n fr nx v k o d pr L)
    (fun j X Y r h hg hr => h.grown HPL.out.2.1 HLE.out hg hr)
    (fun j X Y h hb => h.below hb)
    ⟨v, [], by simpa using HW2.out, FrW.refl _ _ _, Below.refl _ _, HNE.out, by simp, by
      unfold afterW
      rw [List.drop_zero]
      by_cases h : (keepF n nx fr k o d pr L).1 = 0
      · rw [if_neg (by simpa using h), List.nil_append, ← h]
      · rw [if_pos h]
        exact Prod.ext rfl (keepF_nil _ h)⟩
    (fun j => { tmps := #[.pointer (some ⟨B, 0, none⟩), iV k, iV o, iV d, .pointer (some ⟨W.heap.size, 0, none⟩), .pointer (some ⟨W.heap.size + 1, 0, none⟩), .pointer (some ⟨W.heap.size + 1 + 1, 0, none⟩), .pointer (some ⟨W.heap.size + 1 + 1 + 1, 0, none⟩), iV (L.getD j 0), undef, undef, undef, undef, undef, undef, undef, .pointer (some ⟨B, 0, none⟩), iV k, iV o, .func (.func 124) #[] #[.pointer (some ⟨P2, 0, none⟩), .pointer (some ⟨P3, 0, none⟩), .pointer (some ⟨P4, 0, none⟩)], iV (L.getD j 0), undef, undef, undef, undef, undef, undef, undef, undef, undef, undef, undef, undef, undef, undef, undef, undef, undef, undef, undef, undef, undef, undef, undef, undef, undef, undef, undef, undef, undef, undef, undef, undef, undef, undef, undef, undef, undef, undef, undef, undef, undef, undef, undef, undef, undef, undef, undef, undef, undef, undef, undef, undef, undef, undef, undef, undef, undef, undef], defers := [] }) ?assign ?body ?pan ?done
  case assign =>
    intro l j X K hK
    unfold encI
    generalize L.getD j 0 = t at *
    gi_wp2
    exact hK
  case pan =>
    rintro ch X ⟨v', y, rfl, hy, hfr, hbw, hkf⟩ hdf
    have HDF := Lib.hid hdf
    have HFIN : Hid (KeepW w0.heap.size W B n fr till (.slice A nx.length c) dv v xs (keepR n nx fr till k o d pr) (FailE y) (X.putObj w2.heap.size (.deferred none))) := by
      have hR : keepR n nx fr till k o d pr = (y, []) := by
        unfold keepR cutsOf
        rw [HLL.out]
        exact hkf
      have hg := grownBy_putObj' X w2.heap.size (.deferred none)
      have h2 := HB2.out.size
      refine .inr ⟨by rw [hR]; exact hy, by rw [hR], v', ?_, ?_⟩
      · exact ((FrW.of_below HB2.out).trans hfr).put h2 hg
      · exact ((HB2.out.mono HW.out.le).trans hbw).grown hg (Nat.le_trans HLE.out hbw.size) (fun k e => by cases e; exact HLE.out)
    clear hfr hbw hkf hdf
    refine ⟨by simp, .inl ⟨_, _, rfl, run_takeDeferred HDF.out, ?_⟩⟩
    exact HFIN.out
  case done =>
    rintro X ⟨v', ds, hws, hfr, hbw, hne0, hdl0, hkf⟩ hdf
    have HDF := Lib.hid hdf
    have HFIN : Hid (KeepW w0.heap.size W B n fr till (.slice A nx.length c) dv v xs (keepR n nx fr till k o d pr) (.returned (.tuple #[])) (X.putObj w2.heap.size (.deferred none))) := by
      have hR : keepR n nx fr till k o d pr = (0, ds) := by
        unfold keepR cutsOf
        rw [HLL.out, hkf, List.drop_length]
        unfold afterW keepF
        simp
      have hg := grownBy_putObj' X w2.heap.size (.deferred none)
      have h2 := HB2.out.size
      have hI : KeI w0.heap.size w2 B n fr till nx (.slice A nx.length c) dv v xs k o d pr L L.length X := ⟨v', ds, hws, hfr, hbw, hne0, hdl0, hkf⟩
      obtain ⟨v2, ds2, hws2, hfr2, hbw2, -, -, hkf2⟩ := hI.grown HPL.out.2.1 HLE.out hg (.inl rfl)
      have hds : ds2 = ds := by
        have h9 : afterW ds (keepF n nx fr k o d pr (L.drop L.length)) = afterW ds2 (keepF n nx fr k o d pr (L.drop L.length)) := hkf.symm.trans hkf2
        rw [List.drop_length] at h9
        unfold afterW keepF at h9
        simpa using h9.symm
      rw [hds] at hws2
      refine .inl ⟨by rw [hR], rfl, v2, by rw [hR]; exact hws2, (FrW.of_below HB2.out).trans hfr2, (HB2.out.mono HW.out.le).trans hbw2⟩
    clear hws hfr hbw hkf hdf
    go_wp2
    refine ⟨by simp, .inl ⟨_, _, rfl, run_takeDeferred HDF.out, ?_⟩⟩
    exact ⟨.tuple #[], by simp [results, Tryz.results37, go_sem], HFIN.out⟩
  case body =>
    rintro l j X hj ⟨v', ds, hws, hfr, hbw, hne, hdl, hkf⟩ hsz
    have hlj : L[j]? = some (L.getD j 0) := by simp [List.getD, hj]
    generalize L.getD j 0 = t at *
    have HSTEP := Lib.hid (keepF_step (n := n) (nx := nx) (fr := fr) (k := k) (o := o) (d := d) (pr := pr) hlj)
    have hcl := HG.out.cls _ (List.mem_of_getElem? (clsAt_get hk))
    have htr : 0 ≤ t ∧ t ≤ 864000 := by
      have h1 := List.mem_of_getElem? hlj
      rw [← HLL.out] at h1
      have := cuts_mem _ hcl.1 hcl.2.1 h1
      omega
    have HWX := Lib.hid hws
    have HFX := Lib.hid hfr
    have HBX := Lib.hid hbw
    have HNX := Lib.hid hne
    have HKX := Lib.hid hkf
    have HZX : Hid (Same0 w0 X) := H0.out.belowB ((HB2.out.mono HW.out.le).trans hbw)
    have hbB : B < W.heap.size := block_lt HW.out.row
    have hbox : ∀ b, W.heap.size ≤ b → b < w2.heap.size → X.heap[b]? = w2.heap[b]? ∧ v'.ownBlock ≠ some b := fun b h1 h2 => HFX.out.2 b h2 (by omega) (fun e => by have := own_lt HW.out.own e; omega)
    have HBOX := Lib.hid hbox
    have s1 : X.cell? ⟨W.heap.size, 0, none⟩ = some (.pointer (some ⟨B, 0, none⟩)) := cell_of_row _ _ 0 _ _ _ ((hbox _ (Nat.le_refl _) (block_lt HX2.out.1)).1.trans HX2.out.1)
    have s2 : X.cell? ⟨W.heap.size + 1, 0, none⟩ = some (iV k) := cell_of_row _ _ 0 _ _ _ ((hbox _ (by omega) (block_lt HX2.out.2.1)).1.trans HX2.out.2.1)
    have s3 : X.cell? ⟨W.heap.size + 1 + 1, 0, none⟩ = some (iV o) := cell_of_row _ _ 0 _ _ _ ((hbox _ (by omega) (block_lt HX2.out.2.2.1)).1.trans HX2.out.2.2.1)
    have s4 : X.cell? ⟨W.heap.size + 1 + 1 + 1, 0, none⟩ = some (iV d) := cell_of_row _ _ 0 _ _ _ ((hbox _ (by omega) (block_lt HX2.out.2.2.2)).1.trans HX2.out.2.2.2)
    have hLn := HPL.out.2.2
    have hway := way_walk w0 B n fr till A c nx dv v' (xs ++ ds) o d t X HN.out HT.out HZX.out HG.out HF.out HWX.out hB ho hd htr.1 (by omega) hf (by simp; omega)
    have HWAY := Lib.hid hway
    have HDL := Lib.hid hdl
    have HSZ := Lib.hid hsz
    clear hlj hws hfr hbw hne hkf hbox hway hdl hsz
    refine wpIn_block ?_
    have HBS : Hid (∀ w' v'', FrW B v' v'' X w' → w'.cell? ⟨W.heap.size, 0, none⟩ = some (.pointer (some ⟨B, 0, none⟩)) ∧ w'.cell? ⟨W.heap.size + 1, 0, none⟩ = some (iV k) ∧ w'.cell? ⟨W.heap.size + 1 + 1, 0, none⟩ = some (iV o) ∧ w'.cell? ⟨W.heap.size + 1 + 1 + 1, 0, none⟩ = some (iV d)) := fun w' v'' hf => by
      have hx : ∀ b, W.heap.size ≤ b → b < w2.heap.size → w'.heap[b]? = X.heap[b]? := fun b h1 h2 => (hf.2 b (Nat.lt_of_lt_of_le h2 HFX.out.1) (by omega) (HBOX.out b h1 h2).2).1
      exact ⟨(cell_same (hx _ (Nat.le_refl _) (block_lt HX2.out.1))).trans s1, (cell_same (hx _ (by omega) (block_lt HX2.out.2.1))).trans s2, (cell_same (hx _ (by omega) (block_lt HX2.out.2.2.1))).trans s3, (cell_same (hx _ (by omega) (block_lt HX2.out.2.2.2))).trans s4⟩
    have HKB : Hid (∀ w' v'', FrW B v' v'' X w' → KeepP (fun b => b = w2.heap.size ∨ b = w2.heap.size + 1) X w') := fun w' v'' hf b hb => (hf.2 b (by have := HSZ.out; rcases hb with h | h <;> omega) (by have := HPL.out.2.1; rcases hb with h | h <;> omega) (HNX.out b hb)).1
    by_cases hr0 : (wayW n nx fr o d t).1 = 0
    case neg =>
      have hway2 : Calls Tryz.prog 81 #[.pointer (some ⟨B, 0, none⟩), iV o, iV d, iV t] X (fun e w' => e = FailE (wayW n nx fr o d t).1 ∧ ∃ v3, FrW B v' v3 X w' ∧ Below w0.heap.size X w') := HWAY.out.mono (fun e w' h => by
        rcases h with ⟨h, _⟩ | ⟨_, h⟩
        · exact absurd h hr0
        · exact h)
      have HW2Y := Lib.hid hway2
      have HKF : Hid (keepF n nx fr k o d pr L = ((wayW n nx fr o d t).1, [])) := by
        show _ = _
        have h9 : keepF n nx fr k o d pr (L.drop j) = ((wayW n nx fr o d t).1, []) := by rw [HSTEP.out, keepF, if_pos hr0]
        rw [HKX.out, h9]
        unfold afterW
        rw [if_pos hr0]
      have HR0 := Lib.hid hr0
      clear hway2 hr0
      generalize (wayW n nx fr o d t).1 = y at *
      gi_wp2_with (refine ⟨trivial, ?_⟩; gi_at_call 81; refine (CallsIn.inRound l (callsIn_wide.2 HW2Y.out)).mono ?_; rintro e w3 ⟨rfl, v3, hf3, hb3⟩; have HF3 := Lib.hid hf3; have HB3 := Lib.hid hb3; clear hf3 hb3)
      exact ⟨rfl, HKB.out _ _ HF3.out, v3, y, rfl, HR0.out, HFX.out.trans HF3.out, HBX.out.trans HB3.out, HKF.out⟩
    have hway2 : Calls Tryz.prog 81 #[.pointer (some ⟨B, 0, none⟩), iV o, iV d, iV t] X (fun e w' => e = .returned (iV (wayW n nx fr o d t).2.2) ∧ ∃ v3, WrS w0.heap.size w' B n fr till (.slice A nx.length c) dv v3 (xs ++ ds ++ (wayW n nx fr o d t).2.1) ∧ FrW B v' v3 X w' ∧ Below w0.heap.size X w') := HWAY.out.mono (fun e w' h => by
      rcases h with ⟨_, h⟩ | ⟨h, _⟩
      · exact h
      · exact absurd hr0 h)
    have HW2Y := Lib.hid hway2
    have HR0 := Lib.hid hr0
    obtain ⟨ci, hci, hcg, hcb⟩ := HG.out.calAt hd
    have HCI : Hid ((offAt n d).cal = (ci : Int) ∧ n.cals[ci]? = some (calAt n d) ∧ calB (calAt n d) = true) := ⟨hci, hcg, hcb⟩
    clear hway2 hr0 hci hcg hcb
    gi_wp2_with (first
      | (refine ⟨trivial, ?_⟩; gi_at_call 81; refine (CallsIn.inRound l (callsIn_wide.2 HW2Y.out)).mono ?_; rintro e w3 ⟨rfl, v3, hw3, hf3, hb3⟩; have HF3 := Lib.hid hf3; have HB3 := Lib.hid hb3; have HW3 := Lib.hid hw3; have HZ3 := Lib.hid (HZX.out.belowB hb3); have HP3 : Hid (NetP w3 B n) := ⟨hw3.box, HN.out.old HZ3.out.1 HZ3.out.2⟩; clear hw3 hf3 hb3 s1 s2 s3 s4; obtain ⟨t1, t2, t3, t4⟩ := HBS.out _ _ HF3.out)
      | (refine ⟨trivial, ?_⟩; gi_at_call 82; refine (CallsIn.inRound l (callsIn_wide.2 (wcalof_any B n d ci _ _ w3 HP3.out (offAt_get hd) HCI.out.1 HCI.out.2.1))).mono ?_; rintro e w4 ⟨rfl, hb⟩; have HB4 := Lib.hid hb; clear hb t1 t2 t3 t4))
    have HCAL : Hid (NetP w4 B n) := HP3.out.below HB4.out
    have hx5 := heap_alloc_new w4 (.cells #[iV (calAt n d).zone, .slice (calAt n d).wA (calAt n d).week.length (calAt n d).wc, .slice (calAt n d).hA (calAt n d).hol.length (calAt n d).hc] 58)
    have hb5 := ba w4 (.cells #[iV (calAt n d).zone, .slice (calAt n d).wA (calAt n d).week.length (calAt n d).wc, .slice (calAt n d).hA (calAt n d).hol.length (calAt n d).hc] 58)
    have HX5 := Lib.hid hx5
    have HB5 := Lib.hid (bt HB4.out hb5)
    change Code.wpIn _ _ _ _ _ _ (w4.alloc (.cells #[iV (calAt n d).zone, .slice (calAt n d).wA (calAt n d).week.length (calAt n d).wc, .slice (calAt n d).hA (calAt n d).hol.length (calAt n d).hc] 58))
    clear hx5 hb5
    generalize (w4.alloc (.cells #[iV (calAt n d).zone, .slice (calAt n d).wA (calAt n d).week.length (calAt n d).wc, .slice (calAt n d).hA (calAt n d).hol.length (calAt n d).hc] 58)) = W5 at *
    generalize w4.heap.size = Z at *
    have HP5 := Lib.hid (HP3.out.below HB5.out)
    obtain ⟨-, lb, lo, hlA, hlb, -, hlc⟩ := elem_at encCls_len HP5.out.net.clss (clsAt_get hk) (by omega)
    have n5 : W5.cell? ⟨B, 5, none⟩ = some (.slice n.clsA n.clss.length n.clsC) := HP5.out.box 5 _ rfl
    rw [hlA] at n5
    have l2 : W5.cell? ⟨lb, lo + k * 3 + 2, none⟩ = some (iV (clsAt n k).deliver) := hlc 2 _ rfl
    obtain ⟨t1, t2, t3, t4⟩ := HBS.out W5 v3 (HF3.out.trans (FrW.of_below HB5.out))
    have HST : Hid (∀ w', Below W5.heap.size W5 w' → (fun w' => w'.cell? ⟨Z, 0, none⟩ = some (iV (calAt n d).zone) ∧ w'.cell? ⟨Z, 1, none⟩ = some (.slice (calAt n d).wA (calAt n d).week.length (calAt n d).wc) ∧ w'.cell? ⟨Z, 2, none⟩ = some (.slice (calAt n d).hA (calAt n d).hol.length (calAt n d).hc) ∧ w'.cell? ⟨W.heap.size, 0, none⟩ = some (.pointer (some ⟨B, 0, none⟩)) ∧ w'.cell? ⟨W.heap.size + 1, 0, none⟩ = some (iV k) ∧ w'.cell? ⟨W.heap.size + 1 + 1 + 1, 0, none⟩ = some (iV d) ∧ w'.cell? ⟨B, 5, none⟩ = some (.slice (some ⟨lb, lo, none⟩) n.clss.length n.clsC) ∧ w'.cell? ⟨lb, lo + k * 3 + 2, none⟩ = some (iV (clsAt n k).deliver)) w') := fun w' hb => by
      have hz := (hb.block _ (block_lt HX5.out)).trans HX5.out
      exact ⟨cell_of_row _ _ 0 _ _ _ hz, cell_of_row _ _ 1 _ _ _ hz, cell_of_row _ _ 2 _ _ _ hz, cell_keepW hb t1, cell_keepW hb t2, cell_keepW hb t4, cell_keepW hb n5, cell_keepW hb l2⟩
    obtain ⟨-, p1, p2, m1, m2⟩ := HG.out.off _ (List.mem_of_getElem? (offAt_get hd))
    have HPM : Hid (1 ≤ (offAt n d).passes ∧ (offAt n d).passes ≤ 4 ∧ 1 ≤ (offAt n d).minutes ∧ (offAt n d).minutes ≤ 240) := ⟨p1, p2, m1, m2⟩
    have hmul := mul_small p1 p2 m1 m2
    have HCA5 : Hid (CalIn W5 (calAt n d)) := HP5.out.net.cal _ (List.mem_of_getElem? HCI.out.2.1)
    have harr : 0 ≤ (wayW n nx fr o d t).2.2 ∧ (wayW n nx fr o d t).2.2 ≤ 3000000 := by
      obtain ⟨l0, st, e1, e2, e3, -⟩ := wayR_end HG.out HF.out hd 19 o t ho htr.1 (by omega) HR0.out
      show 0 ≤ (lastSt (wayR n nx d 19 o t).2).arrive ∧ (lastSt (wayR n nx d 19 o t).2).arrive ≤ 3000000
      rw [e1, last_app]
      exact ⟨e2, e3⟩
    obtain ⟨arr, hArr⟩ : ∃ arr, arr = (wayW n nx fr o d t).2.2 := ⟨_, rfl⟩
    have HARR := Lib.hid hArr
    rw [← hArr] at harr ⊢
    have hrr : 0 ≤ readyR (offAt n d) arr ∧ readyR (offAt n d) arr ≤ 3001000 := by unfold readyR; omega
    have HAR := Lib.hid (And.intro harr hrr)
    have q0 : (0 : Int) ≤ (k : Int) := by omega
    have q1 : (k : Int) < (n.clss.length : Int) := by omega
    clear hlc hlA hlb n5 l2 t1 t2 t3 t4 p1 p2 m1 m2 hmul hArr
    rcases wfirst_two (calAt n d) (clsAt n k).deliver (readyR (offAt n d) arr) with ⟨en, hen⟩ | hen
    case inr =>
      have HEE := Lib.hid hen
      clear hen
      refine wp_region_roundP (S := fun w' => w'.cell? ⟨Z, 0, none⟩ = some (iV (calAt n d).zone) ∧ w'.cell? ⟨Z, 1, none⟩ = some (.slice (calAt n d).wA (calAt n d).week.length (calAt n d).wc) ∧ w'.cell? ⟨Z, 2, none⟩ = some (.slice (calAt n d).hA (calAt n d).hol.length (calAt n d).hc) ∧ w'.cell? ⟨W.heap.size, 0, none⟩ = some (.pointer (some ⟨B, 0, none⟩)) ∧ w'.cell? ⟨W.heap.size + 1, 0, none⟩ = some (iV k) ∧ w'.cell? ⟨W.heap.size + 1 + 1 + 1, 0, none⟩ = some (iV d) ∧ w'.cell? ⟨B, 5, none⟩ = some (.slice (some ⟨lb, lo, none⟩) n.clss.length n.clsC) ∧ w'.cell? ⟨lb, lo + k * 3 + 2, none⟩ = some (iV (clsAt n k).deliver)) (by kernel_rfl) (by kernel_rfl) (fun ⟨_, _, h⟩ => h) ?_
      have hHeld := HST.out _ (b_drew (Below.refl _ _))
      refine wpAnyH_take (i := 0) (v := ?_) rfl (by kernel_rfl) (by kernel_rfl) (by kernel_rfl) (fun _ _ _ h => h) (Or.inl ⟨by kernel_rfl, ?_⟩) (by assumption) ?_
      rotate_left
      · (intro w hSw; (try dsimp only at hSw); go_simp; (try with_reducible rfl))
      try simp only [Act.put, List.getElem_toArray, List.getElem_cons_zero, List.setIfInBounds_toArray, List.set_cons_zero, List.set_cons_succ]
      refine wpAnyH_take (i := 1) (v := ?_) rfl (by kernel_rfl) (by kernel_rfl) (by kernel_rfl) (fun _ _ _ h => h) (Or.inl ⟨by kernel_rfl, ?_⟩) (by assumption) ?_
      rotate_left
      · (intro w hSw; (try dsimp only at hSw); go_simp; (try with_reducible rfl))
      try simp only [Act.put, List.getElem_toArray, List.getElem_cons_succ, List.getElem_cons_zero, List.setIfInBounds_toArray, List.set_cons_zero, List.set_cons_succ]
      refine wpAnyH_take (i := 2) (v := ?_) rfl (by kernel_rfl) (by kernel_rfl) (by kernel_rfl) (fun _ _ _ h => h) (Or.inl ⟨by kernel_rfl, ?_⟩) (by assumption) ?_
      rotate_left
      · (intro w hSw; (try dsimp only at hSw); go_simp; (try with_reducible rfl))
      try simp only [Act.put, List.getElem_toArray, List.getElem_cons_succ, List.getElem_cons_zero, List.setIfInBounds_toArray, List.set_cons_zero, List.set_cons_succ]
      refine wpAnyH_take (i := 3) (v := ?_) rfl (by kernel_rfl) (by kernel_rfl) (by kernel_rfl) (fun _ _ _ h => h) (Or.inl ⟨by kernel_rfl, ?_⟩) (by assumption) ?_
      rotate_left
      · (intro w hSw; (try dsimp only at hSw); go_simp; (try with_reducible rfl))
      try simp only [Act.put, List.getElem_toArray, List.getElem_cons_succ, List.getElem_cons_zero, List.setIfInBounds_toArray, List.set_cons_zero, List.set_cons_succ]
      refine wpAnyH_take (i := 4) (v := ?_) rfl (by kernel_rfl) (by kernel_rfl) (by kernel_rfl) (fun _ _ _ h => h) (Or.inl ⟨by kernel_rfl, ?_⟩) (by assumption) ?_
      rotate_left
      · (intro w hSw; (try dsimp only at hSw); go_simp; (try with_reducible rfl))
      try simp only [Act.put, List.getElem_toArray, List.getElem_cons_succ, List.getElem_cons_zero, List.setIfInBounds_toArray, List.set_cons_zero, List.set_cons_succ]
      refine wpAnyH_take (i := 5) (v := ?_) rfl (by kernel_rfl) (by kernel_rfl) (by kernel_rfl) (fun _ _ _ h => h) (Or.inl ⟨by kernel_rfl, ?_⟩) (by assumption) ?_
      rotate_left
      · (intro w hSw; (try dsimp only at hSw); go_simp; (try with_reducible rfl))
      try simp only [Act.put, List.getElem_toArray, List.getElem_cons_succ, List.getElem_cons_zero, List.setIfInBounds_toArray, List.set_cons_zero, List.set_cons_succ]
      refine wpAnyH_take (i := 6) (v := ?_) rfl (by kernel_rfl) (by kernel_rfl) (by kernel_rfl) (fun _ _ _ h => h) (Or.inl ⟨by kernel_rfl, ?_⟩) (by assumption) ?_
      rotate_left
      · (intro w hSw; (try dsimp only at hSw); go_simp; (try with_reducible rfl))
      try simp only [Act.put, List.getElem_toArray, List.getElem_cons_succ, List.getElem_cons_zero, List.setIfInBounds_toArray, List.set_cons_zero, List.set_cons_succ]
      refine wpAnyH_take (i := 7) (v := ?_) rfl (by kernel_rfl) (by kernel_rfl) (by kernel_rfl) (fun _ _ _ h => h) (Or.inl ⟨by kernel_rfl, ?_⟩) (by assumption) ?_
      rotate_left
      · (intro w hSw; (try dsimp only at hSw); go_simp; (try with_reducible rfl))
      try simp only [Act.put, List.getElem_toArray, List.getElem_cons_succ, List.getElem_cons_zero, List.setIfInBounds_toArray, List.set_cons_zero, List.set_cons_succ]
      refine wpAnyH_take (i := 8) (v := ?_) rfl (by kernel_rfl) (by kernel_rfl) (by kernel_rfl) (fun _ _ _ h => h) (Or.inl ⟨by kernel_rfl, ?_⟩) (by assumption) ?_
      rotate_left
      · (intro w hSw; (try dsimp only at hSw); go_simp; (try with_reducible rfl))
      try simp only [Act.put, List.getElem_toArray, List.getElem_cons_succ, List.getElem_cons_zero, List.setIfInBounds_toArray, List.set_cons_zero, List.set_cons_succ]
      refine wpAnyH_take (i := 9) (v := ?_) rfl (by kernel_rfl) (by kernel_rfl) (by kernel_rfl) (fun _ _ _ h => h) (Or.inl ⟨by kernel_rfl, ?_⟩) (by assumption) ?_
      rotate_left
      · (intro w hSw; (try dsimp only at hSw); go_simp; (try with_reducible rfl))
      try simp only [Act.put, List.getElem_toArray, List.getElem_cons_succ, List.getElem_cons_zero, List.setIfInBounds_toArray, List.set_cons_zero, List.set_cons_succ]
      refine wpAnyH_take (i := 10) (v := ?_) rfl (by kernel_rfl) (by kernel_rfl) (by kernel_rfl) (fun _ _ _ h => h) (Or.inl ⟨by kernel_rfl, ?_⟩) (by assumption) ?_
      rotate_left
      · (intro w hSw; (try dsimp only at hSw); go_simp; (try with_reducible rfl))
      try simp only [Act.put, List.getElem_toArray, List.getElem_cons_succ, List.getElem_cons_zero, List.setIfInBounds_toArray, List.set_cons_zero, List.set_cons_succ]
      refine wpAnyH_take (i := 11) (v := ?_) rfl (by kernel_rfl) (by kernel_rfl) (by kernel_rfl) (fun _ _ _ h => h) (Or.inl ⟨by kernel_rfl, ?_⟩) (by assumption) ?_
      rotate_left
      · (intro w hSw; (try dsimp only at hSw); go_simp; (try with_reducible rfl))
      try simp only [Act.put, List.getElem_toArray, List.getElem_cons_succ, List.getElem_cons_zero, List.setIfInBounds_toArray, List.set_cons_zero, List.set_cons_succ]
      refine wpAnyH_take (i := 12) (v := ?_) rfl (by kernel_rfl) (by kernel_rfl) (by kernel_rfl) (fun _ _ _ h => h) (Or.inl ⟨by kernel_rfl, ?_⟩) (by assumption) ?_
      rotate_left
      · (intro w hSw; (try dsimp only at hSw); go_simp; (try with_reducible rfl))
      try simp only [Act.put, List.getElem_toArray, List.getElem_cons_succ, List.getElem_cons_zero, List.setIfInBounds_toArray, List.set_cons_zero, List.set_cons_succ]
      refine wpAnyH_ready (rs := [13]) (by kernel_rfl) (by simp) ?_
      refine AllReadyH.cons rfl (fun K hK => ?_) AllReadyH.nil
      go_simp
      (go_at_call 85; refine (wready_any B n d _ arr _ (HP5.out.below (b_drew (Below.refl _ _))) (offAt_get hd) HPM.out.1 HPM.out.2.1 HPM.out.2.2.1 HPM.out.2.2.2 (by omega) (by omega)).mono ?_; rintro e wq ⟨rfl, hb⟩; have HBq := Lib.hid (bdr hb); clear hb)
      go_wp2_with fail
      refine hK.out _ _ (HST.out _ HBq.out) (fun hHeld => ?_)
      clear hK K
      try simp only [Act.put, List.getElem_toArray, List.getElem_cons_succ, List.getElem_cons_zero, List.setIfInBounds_toArray, List.set_cons_zero, List.set_cons_succ]
      refine wpAnyH_ready (rs := [14]) (by kernel_rfl) (by simp) ?_
      refine AllReadyH.cons rfl (fun K hK => ?_) AllReadyH.nil
      go_simp
      (go_at_call 84; refine (wfirst_any (calAt n d) (clsAt n k).deliver (readyR (offAt n d) arr) _ (HCA5.out.below HBq.out) HCI.out.2.2 hcl.2.2.1 hcl.2.2.2 (by omega) (by omega)).mono ?_; rintro e w6 ⟨rfl, hb⟩; rw [HEE.out]; have HB6 := Lib.hid (bt HBq.out hb); clear hb)
      go_wp2_with fail
      refine hK.out _ _ (HST.out _ HB6.out) (fun hHeld => ?_)
      clear hK K
      try simp only [Act.put, List.getElem_toArray, List.getElem_cons_succ, List.getElem_cons_zero, List.setIfInBounds_toArray, List.set_cons_zero, List.set_cons_succ]
      refine wpAnyH_take (i := 15) (v := ?_) rfl (by kernel_rfl) (by kernel_rfl) (by kernel_rfl) (fun _ _ _ h => h) (Or.inl ⟨by kernel_rfl, ?_⟩) (by assumption) ?_
      rotate_left
      · (intro w hSw; (try dsimp only at hSw); go_simp; (try with_reducible rfl))
      try simp only [Act.put, List.getElem_toArray, List.getElem_cons_succ, List.getElem_cons_zero, List.setIfInBounds_toArray, List.set_cons_zero, List.set_cons_succ]
      refine wpAnyH_take (i := 16) (v := ?_) rfl (by kernel_rfl) (by kernel_rfl) (by kernel_rfl) (fun _ _ _ h => h) (Or.inl ⟨by kernel_rfl, ?_⟩) (by assumption) ?_
      rotate_left
      · (intro w hSw; (try dsimp only at hSw); go_simp; (try with_reducible rfl))
      try simp only [Act.put, List.getElem_toArray, List.getElem_cons_succ, List.getElem_cons_zero, List.setIfInBounds_toArray, List.set_cons_zero, List.set_cons_succ]
      refine wpAnyH_ready (rs := [17]) (by kernel_rfl) (by simp) ?_
      refine AllReadyH.cons rfl (fun K hK => ?_) AllReadyH.nil
      go_simp
      (go_at_call 83; refine (wmust_no 0 20 _ (by decide)).mono ?_; rintro e w7 ⟨rfl, rfl⟩)
      go_wp2_with fail
      have HFF := Lib.hid (HF3.out.trans (FrW.of_below (bt HB5.out HB6.out)))
      have hkf9 : keepF n nx fr k o d pr L = (20, []) := by
        have h9 : keepF n nx fr k o d pr (L.drop j) = (20, []) := by
          have e1 : (endW n k d (wayW n nx fr o d t).2.2).2 = 20 := by
            unfold endW
            rw [← HARR.out, HEE.out]
          rw [HSTEP.out, keepF, if_neg (by rw [HR0.out]; decide), if_pos (by rw [e1]; decide), e1]
        rw [HKX.out, h9]
        unfold afterW
        rw [if_pos (by decide)]
      exact ⟨rfl, HKB.out _ _ HFF.out, v3, 20, rfl, by decide, HFX.out.trans HFF.out, HBX.out.trans (HB3.out.trans ((bt HB5.out HB6.out).mono HW3.out.le)), hkf9⟩
    have HEE := Lib.hid hen
    clear hen
    refine wp_region_roundP (S := fun w' => w'.cell? ⟨Z, 0, none⟩ = some (iV (calAt n d).zone) ∧ w'.cell? ⟨Z, 1, none⟩ = some (.slice (calAt n d).wA (calAt n d).week.length (calAt n d).wc) ∧ w'.cell? ⟨Z, 2, none⟩ = some (.slice (calAt n d).hA (calAt n d).hol.length (calAt n d).hc) ∧ w'.cell? ⟨W.heap.size, 0, none⟩ = some (.pointer (some ⟨B, 0, none⟩)) ∧ w'.cell? ⟨W.heap.size + 1, 0, none⟩ = some (iV k) ∧ w'.cell? ⟨W.heap.size + 1 + 1 + 1, 0, none⟩ = some (iV d) ∧ w'.cell? ⟨B, 5, none⟩ = some (.slice (some ⟨lb, lo, none⟩) n.clss.length n.clsC) ∧ w'.cell? ⟨lb, lo + k * 3 + 2, none⟩ = some (iV (clsAt n k).deliver)) (by kernel_rfl) (by kernel_rfl) (fun ⟨_, _, h⟩ => h) ?_
    have hHeld := HST.out _ (b_drew (Below.refl _ _))
    refine wpAnyH_take (i := 0) (v := ?_) rfl (by kernel_rfl) (by kernel_rfl) (by kernel_rfl) (fun _ _ _ h => h) (Or.inl ⟨by kernel_rfl, ?_⟩) (by assumption) ?_
    rotate_left
    · (intro w hSw; (try dsimp only at hSw); go_simp; (try with_reducible rfl))
    try simp only [Act.put, List.getElem_toArray, List.getElem_cons_zero, List.setIfInBounds_toArray, List.set_cons_zero, List.set_cons_succ]
    refine wpAnyH_take (i := 1) (v := ?_) rfl (by kernel_rfl) (by kernel_rfl) (by kernel_rfl) (fun _ _ _ h => h) (Or.inl ⟨by kernel_rfl, ?_⟩) (by assumption) ?_
    rotate_left
    · (intro w hSw; (try dsimp only at hSw); go_simp; (try with_reducible rfl))
    try simp only [Act.put, List.getElem_toArray, List.getElem_cons_succ, List.getElem_cons_zero, List.setIfInBounds_toArray, List.set_cons_zero, List.set_cons_succ]
    refine wpAnyH_take (i := 2) (v := ?_) rfl (by kernel_rfl) (by kernel_rfl) (by kernel_rfl) (fun _ _ _ h => h) (Or.inl ⟨by kernel_rfl, ?_⟩) (by assumption) ?_
    rotate_left
    · (intro w hSw; (try dsimp only at hSw); go_simp; (try with_reducible rfl))
    try simp only [Act.put, List.getElem_toArray, List.getElem_cons_succ, List.getElem_cons_zero, List.setIfInBounds_toArray, List.set_cons_zero, List.set_cons_succ]
    refine wpAnyH_take (i := 3) (v := ?_) rfl (by kernel_rfl) (by kernel_rfl) (by kernel_rfl) (fun _ _ _ h => h) (Or.inl ⟨by kernel_rfl, ?_⟩) (by assumption) ?_
    rotate_left
    · (intro w hSw; (try dsimp only at hSw); go_simp; (try with_reducible rfl))
    try simp only [Act.put, List.getElem_toArray, List.getElem_cons_succ, List.getElem_cons_zero, List.setIfInBounds_toArray, List.set_cons_zero, List.set_cons_succ]
    refine wpAnyH_take (i := 4) (v := ?_) rfl (by kernel_rfl) (by kernel_rfl) (by kernel_rfl) (fun _ _ _ h => h) (Or.inl ⟨by kernel_rfl, ?_⟩) (by assumption) ?_
    rotate_left
    · (intro w hSw; (try dsimp only at hSw); go_simp; (try with_reducible rfl))
    try simp only [Act.put, List.getElem_toArray, List.getElem_cons_succ, List.getElem_cons_zero, List.setIfInBounds_toArray, List.set_cons_zero, List.set_cons_succ]
    refine wpAnyH_take (i := 5) (v := ?_) rfl (by kernel_rfl) (by kernel_rfl) (by kernel_rfl) (fun _ _ _ h => h) (Or.inl ⟨by kernel_rfl, ?_⟩) (by assumption) ?_
    rotate_left
    · (intro w hSw; (try dsimp only at hSw); go_simp; (try with_reducible rfl))
    try simp only [Act.put, List.getElem_toArray, List.getElem_cons_succ, List.getElem_cons_zero, List.setIfInBounds_toArray, List.set_cons_zero, List.set_cons_succ]
    refine wpAnyH_take (i := 6) (v := ?_) rfl (by kernel_rfl) (by kernel_rfl) (by kernel_rfl) (fun _ _ _ h => h) (Or.inl ⟨by kernel_rfl, ?_⟩) (by assumption) ?_
    rotate_left
    · (intro w hSw; (try dsimp only at hSw); go_simp; (try with_reducible rfl))
    try simp only [Act.put, List.getElem_toArray, List.getElem_cons_succ, List.getElem_cons_zero, List.setIfInBounds_toArray, List.set_cons_zero, List.set_cons_succ]
    refine wpAnyH_take (i := 7) (v := ?_) rfl (by kernel_rfl) (by kernel_rfl) (by kernel_rfl) (fun _ _ _ h => h) (Or.inl ⟨by kernel_rfl, ?_⟩) (by assumption) ?_
    rotate_left
    · (intro w hSw; (try dsimp only at hSw); go_simp; (try with_reducible rfl))
    try simp only [Act.put, List.getElem_toArray, List.getElem_cons_succ, List.getElem_cons_zero, List.setIfInBounds_toArray, List.set_cons_zero, List.set_cons_succ]
    refine wpAnyH_take (i := 8) (v := ?_) rfl (by kernel_rfl) (by kernel_rfl) (by kernel_rfl) (fun _ _ _ h => h) (Or.inl ⟨by kernel_rfl, ?_⟩) (by assumption) ?_
    rotate_left
    · (intro w hSw; (try dsimp only at hSw); go_simp; (try with_reducible rfl))
    try simp only [Act.put, List.getElem_toArray, List.getElem_cons_succ, List.getElem_cons_zero, List.setIfInBounds_toArray, List.set_cons_zero, List.set_cons_succ]
    refine wpAnyH_take (i := 9) (v := ?_) rfl (by kernel_rfl) (by kernel_rfl) (by kernel_rfl) (fun _ _ _ h => h) (Or.inl ⟨by kernel_rfl, ?_⟩) (by assumption) ?_
    rotate_left
    · (intro w hSw; (try dsimp only at hSw); go_simp; (try with_reducible rfl))
    try simp only [Act.put, List.getElem_toArray, List.getElem_cons_succ, List.getElem_cons_zero, List.setIfInBounds_toArray, List.set_cons_zero, List.set_cons_succ]
    refine wpAnyH_take (i := 10) (v := ?_) rfl (by kernel_rfl) (by kernel_rfl) (by kernel_rfl) (fun _ _ _ h => h) (Or.inl ⟨by kernel_rfl, ?_⟩) (by assumption) ?_
    rotate_left
    · (intro w hSw; (try dsimp only at hSw); go_simp; (try with_reducible rfl))
    try simp only [Act.put, List.getElem_toArray, List.getElem_cons_succ, List.getElem_cons_zero, List.setIfInBounds_toArray, List.set_cons_zero, List.set_cons_succ]
    refine wpAnyH_take (i := 11) (v := ?_) rfl (by kernel_rfl) (by kernel_rfl) (by kernel_rfl) (fun _ _ _ h => h) (Or.inl ⟨by kernel_rfl, ?_⟩) (by assumption) ?_
    rotate_left
    · (intro w hSw; (try dsimp only at hSw); go_simp; (try with_reducible rfl))
    try simp only [Act.put, List.getElem_toArray, List.getElem_cons_succ, List.getElem_cons_zero, List.setIfInBounds_toArray, List.set_cons_zero, List.set_cons_succ]
    refine wpAnyH_take (i := 12) (v := ?_) rfl (by kernel_rfl) (by kernel_rfl) (by kernel_rfl) (fun _ _ _ h => h) (Or.inl ⟨by kernel_rfl, ?_⟩) (by assumption) ?_
    rotate_left
    · (intro w hSw; (try dsimp only at hSw); go_simp; (try with_reducible rfl))
    try simp only [Act.put, List.getElem_toArray, List.getElem_cons_succ, List.getElem_cons_zero, List.setIfInBounds_toArray, List.set_cons_zero, List.set_cons_succ]
    refine wpAnyH_ready (rs := [13]) (by kernel_rfl) (by simp) ?_
    refine AllReadyH.cons rfl (fun K hK => ?_) AllReadyH.nil
    go_simp
    (go_at_call 85; refine (wready_any B n d _ arr _ (HP5.out.below (b_drew (Below.refl _ _))) (offAt_get hd) HPM.out.1 HPM.out.2.1 HPM.out.2.2.1 HPM.out.2.2.2 (by omega) (by omega)).mono ?_; rintro e wq ⟨rfl, hb⟩; have HBq := Lib.hid (bdr hb); clear hb)
    go_wp2_with fail
    refine hK.out _ _ (HST.out _ HBq.out) (fun hHeld => ?_)
    clear hK K
    try simp only [Act.put, List.getElem_toArray, List.getElem_cons_succ, List.getElem_cons_zero, List.setIfInBounds_toArray, List.set_cons_zero, List.set_cons_succ]
    refine wpAnyH_ready (rs := [14]) (by kernel_rfl) (by simp) ?_
    refine AllReadyH.cons rfl (fun K hK => ?_) AllReadyH.nil
    go_simp
    (go_at_call 84; refine (wfirst_any (calAt n d) (clsAt n k).deliver (readyR (offAt n d) arr) _ (HCA5.out.below HBq.out) HCI.out.2.2 hcl.2.2.1 hcl.2.2.2 (by omega) (by omega)).mono ?_; rintro e w6 ⟨rfl, hb⟩; rw [HEE.out]; have HB6 := Lib.hid (bt HBq.out hb); clear hb)
    go_wp2_with fail
    refine hK.out _ _ (HST.out _ HB6.out) (fun hHeld => ?_)
    clear hK K
    try simp only [Act.put, List.getElem_toArray, List.getElem_cons_succ, List.getElem_cons_zero, List.setIfInBounds_toArray, List.set_cons_zero, List.set_cons_succ]
    refine wpAnyH_take (i := 15) (v := ?_) rfl (by kernel_rfl) (by kernel_rfl) (by kernel_rfl) (fun _ _ _ h => h) (Or.inl ⟨by kernel_rfl, ?_⟩) (by assumption) ?_
    rotate_left
    · (intro w hSw; (try dsimp only at hSw); go_simp; (try with_reducible rfl))
    try simp only [Act.put, List.getElem_toArray, List.getElem_cons_succ, List.getElem_cons_zero, List.setIfInBounds_toArray, List.set_cons_zero, List.set_cons_succ]
    refine wpAnyH_take (i := 16) (v := ?_) rfl (by kernel_rfl) (by kernel_rfl) (by kernel_rfl) (fun _ _ _ h => h) (Or.inl ⟨by kernel_rfl, ?_⟩) (by assumption) ?_
    rotate_left
    · (intro w hSw; (try dsimp only at hSw); go_simp; (try with_reducible rfl))
    try simp only [Act.put, List.getElem_toArray, List.getElem_cons_succ, List.getElem_cons_zero, List.setIfInBounds_toArray, List.set_cons_zero, List.set_cons_succ]
    refine wpAnyH_ready (rs := [17]) (by kernel_rfl) (by simp) ?_
    refine AllReadyH.cons rfl (fun K hK => ?_) AllReadyH.nil
    go_simp
    (go_at_call 83; refine (wmust_yes en _).mono ?_; rintro e w7 ⟨rfl, rfl⟩)
    go_wp2_with fail
    refine hK.out _ _ (HST.out _ HB6.out) (fun hHeld => ?_)
    clear hK K
    try simp only [Act.put, List.getElem_toArray, List.getElem_cons_succ, List.getElem_cons_zero, List.setIfInBounds_toArray, List.set_cons_zero, List.set_cons_succ]
    refine wpAnyH_take (i := 18) (v := ?_) rfl (by kernel_rfl) (by kernel_rfl) (by kernel_rfl) (fun _ _ _ h => h) (Or.inl ⟨by kernel_rfl, ?_⟩) (by assumption) ?_
    rotate_left
    · (intro w hSw; (try dsimp only at hSw); go_simp; (try with_reducible rfl))
    try simp only [Act.put, List.getElem_toArray, List.getElem_cons_succ, List.getElem_cons_zero, List.setIfInBounds_toArray, List.set_cons_zero, List.set_cons_succ]
    refine wpAnyH_done (by kernel_rfl) ?_ _
    clear hHeld
    have HFF := Lib.hid (HF3.out.trans (FrW.of_below (bt HB5.out HB6.out)))
    have HB36 := Lib.hid (bt HB5.out HB6.out)
    have HX6 := Lib.hid ((HB6.out.block _ (block_lt HX5.out)).trans HX5.out)
    have hen2 := firstR_in hcl.2.2.1 hcl.2.2.2 HEE.out
    have HENB : Hid (0 ≤ en ∧ en ≤ 3100000) := by show _ ∧ _; omega
    have hen0 := HENB.out
    have HCA6 : Hid (CalIn w6 (calAt n d)) := HCA5.out.below HB6.out
    have z0 : w6.cell? ⟨Z, 0, none⟩ = some (iV (calAt n d).zone) := cell_of_row _ _ 0 _ _ _ HX6.out
    have z1 : w6.cell? ⟨Z, 1, none⟩ = some (.slice (calAt n d).wA (calAt n d).week.length (calAt n d).wc) := cell_of_row _ _ 1 _ _ _ HX6.out
    have z2 : w6.cell? ⟨Z, 2, none⟩ = some (.slice (calAt n d).hA (calAt n d).hol.length (calAt n d).hc) := cell_of_row _ _ 2 _ _ _ HX6.out
    clear HST HX5 HCA5 HP5 HBq hen2
    gi_wp2_with (first
      | (have hguard := HX6.out; clear hguard; refine ⟨trivial, ?_⟩; gi_at_call 16; refine (CallsIn.inRound l (callsIn_wide.2 (local_any (calAt n d) t w6 HCA6.out HCI.out.2.2 (by omega) (by omega)))).mono ?_; rintro e w7 ⟨rfl, hb⟩; have HB7 := Lib.hid hb; have HX7 := Lib.hid ((hb.block _ (block_lt HX6.out)).trans HX6.out); clear hb z0 z1 z2 HX6; have z0 : w7.cell? ⟨Z, 0, none⟩ = some (iV (calAt n d).zone) := cell_of_row _ _ 0 _ _ _ HX7.out; have z1 : w7.cell? ⟨Z, 1, none⟩ = some (.slice (calAt n d).wA (calAt n d).week.length (calAt n d).wc) := cell_of_row _ _ 1 _ _ _ HX7.out; have z2 : w7.cell? ⟨Z, 2, none⟩ = some (.slice (calAt n d).hA (calAt n d).hol.length (calAt n d).hc) := cell_of_row _ _ 2 _ _ _ HX7.out)
      | (refine ⟨trivial, ?_⟩; gi_at_call 16; refine (CallsIn.inRound l (callsIn_wide.2 (local_any (calAt n d) en w7 (HCA6.out.below HB7.out) HCI.out.2.2 (by omega) (by omega)))).mono ?_; rintro e w8 ⟨rfl, hb⟩; have HB8 := Lib.hid (bt HB7.out hb); have HX8 := Lib.hid ((hb.block _ (block_lt HX7.out)).trans HX7.out); clear hb z0 z1 z2))
    obtain ⟨D1, D2, dl, dc, E1, E2, el, ec, F1, F2, fl, fc, hdv, i1, i2, i3, i4, i5, i6, g1, g2, g3, r1, r2, r3⟩ := HD.out.at_
    have HF8 := Lib.hid (HFF.out.trans (FrW.of_below HB8.out))
    have HB38 := Lib.hid (bt HB36.out HB8.out)
    have HW8 := Lib.hid (HW3.out.below HB38.out)
    have HZ8 := Lib.hid (HZ3.out.below HB38.out)
    have b9 : w8.cell? ⟨B, 9, none⟩ = some dv := cell_of_row _ _ 9 _ _ _ HW8.out.row
    rw [hdv] at b9
    obtain ⟨t1, t2, t3, t4⟩ := HBS.out w8 v3 HF8.out
    have HST : Hid (∀ w', Below w8.heap.size w8 w' → (fun w' => w'.cell? ⟨Z, 0, none⟩ = some (iV (calAt n d).zone) ∧ w'.cell? ⟨Z, 1, none⟩ = some (.slice (calAt n d).wA (calAt n d).week.length (calAt n d).wc) ∧ w'.cell? ⟨Z, 2, none⟩ = some (.slice (calAt n d).hA (calAt n d).hol.length (calAt n d).hc) ∧ w'.cell? ⟨W.heap.size, 0, none⟩ = some (.pointer (some ⟨B, 0, none⟩)) ∧ w'.cell? ⟨W.heap.size + 1, 0, none⟩ = some (iV k) ∧ w'.cell? ⟨W.heap.size + 1 + 1, 0, none⟩ = some (iV o) ∧ w'.cell? ⟨W.heap.size + 1 + 1 + 1, 0, none⟩ = some (iV d) ∧ w'.cell? ⟨B, 9, none⟩ = some (.slice (some ⟨D1, D2, none⟩) dl dc) ∧ w'.cell? ⟨D1, D2 + k, none⟩ = some (.slice (some ⟨E1, E2, none⟩) el ec) ∧ w'.cell? ⟨E1, E2 + o, none⟩ = some (.slice (some ⟨F1, F2, none⟩) fl fc) ∧ w'.cell? ⟨F1, F2 + d, none⟩ = some (iV pr)) w') := fun w' hb => by
      have hz := (hb.block _ (block_lt HX8.out)).trans HX8.out
      have hq : ∀ b, b < w0.heap.size → w8.heap[b]? = w0.heap[b]? := HZ8.out.2
      exact ⟨cell_of_row _ _ 0 _ _ _ hz, cell_of_row _ _ 1 _ _ _ hz, cell_of_row _ _ 2 _ _ _ hz, cell_keepW hb t1, cell_keepW hb t2, cell_keepW hb t3, cell_keepW hb t4, cell_keepW hb b9, cell_keepW hb ((cell_same (hq D1 g1)).trans r1), cell_keepW hb ((cell_same (hq E1 g2)).trans r2), cell_keepW hb ((cell_same (hq F1 g3)).trans r3)⟩
    have q2 : (k : Int) < (dl : Int) := by omega
    have q3 : (o : Int) < (el : Int) := by omega
    have q4 : (d : Int) < (fl : Int) := by omega
    have q5 : (0 : Int) ≤ (o : Int) := by omega
    have q6 : (0 : Int) ≤ (d : Int) := by omega
    have hzn := calB_zone HCI.out.2.2
    have HDA : Hid (dayR (dayOf (calAt n d) t) = true) := by show _ = _; unfold dayR dayOf; simp; omega
    have HDB : Hid (dayR (dayOf (calAt n d) en) = true) := by show _ = _; unfold dayR dayOf; simp; omega
    have HCA8 : Hid (CalIn w8 (calAt n d)) := HCA6.out.below HB8.out
    clear b9 t1 t2 t3 t4 r1 r2 r3 hzn
    refine wp_region_roundP (S := fun w' => w'.cell? ⟨Z, 0, none⟩ = some (iV (calAt n d).zone) ∧ w'.cell? ⟨Z, 1, none⟩ = some (.slice (calAt n d).wA (calAt n d).week.length (calAt n d).wc) ∧ w'.cell? ⟨Z, 2, none⟩ = some (.slice (calAt n d).hA (calAt n d).hol.length (calAt n d).hc) ∧ w'.cell? ⟨W.heap.size, 0, none⟩ = some (.pointer (some ⟨B, 0, none⟩)) ∧ w'.cell? ⟨W.heap.size + 1, 0, none⟩ = some (iV k) ∧ w'.cell? ⟨W.heap.size + 1 + 1, 0, none⟩ = some (iV o) ∧ w'.cell? ⟨W.heap.size + 1 + 1 + 1, 0, none⟩ = some (iV d) ∧ w'.cell? ⟨B, 9, none⟩ = some (.slice (some ⟨D1, D2, none⟩) dl dc) ∧ w'.cell? ⟨D1, D2 + k, none⟩ = some (.slice (some ⟨E1, E2, none⟩) el ec) ∧ w'.cell? ⟨E1, E2 + o, none⟩ = some (.slice (some ⟨F1, F2, none⟩) fl fc) ∧ w'.cell? ⟨F1, F2 + d, none⟩ = some (iV pr)) (by kernel_rfl) (by kernel_rfl) (fun ⟨_, _, h⟩ => h) ?_
    have hHeld := HST.out _ (b_drew (Below.refl _ _))
    refine wpAnyH_take (i := 0) (v := ?_) rfl (by kernel_rfl) (by kernel_rfl) (by kernel_rfl) (fun _ _ _ h => h) (Or.inl ⟨by kernel_rfl, ?_⟩) (by assumption) ?_
    rotate_left
    · (intro w hSw; (try dsimp only at hSw); go_simp; (try with_reducible rfl))
    try simp only [Act.put, List.getElem_toArray, List.getElem_cons_zero, List.setIfInBounds_toArray, List.set_cons_zero, List.set_cons_succ]
    refine wpAnyH_take (i := 1) (v := ?_) rfl (by kernel_rfl) (by kernel_rfl) (by kernel_rfl) (fun _ _ _ h => h) (Or.inl ⟨by kernel_rfl, ?_⟩) (by assumption) ?_
    rotate_left
    · (intro w hSw; (try dsimp only at hSw); go_simp; (try with_reducible rfl))
    try simp only [Act.put, List.getElem_toArray, List.getElem_cons_succ, List.getElem_cons_zero, List.setIfInBounds_toArray, List.set_cons_zero, List.set_cons_succ]
    refine wpAnyH_take (i := 2) (v := ?_) rfl (by kernel_rfl) (by kernel_rfl) (by kernel_rfl) (fun _ _ _ h => h) (Or.inl ⟨by kernel_rfl, ?_⟩) (by assumption) ?_
    rotate_left
    · (intro w hSw; (try dsimp only at hSw); go_simp; (try with_reducible rfl))
    try simp only [Act.put, List.getElem_toArray, List.getElem_cons_succ, List.getElem_cons_zero, List.setIfInBounds_toArray, List.set_cons_zero, List.set_cons_succ]
    refine wpAnyH_take (i := 4) (v := ?_) rfl (by kernel_rfl) (by kernel_rfl) (by kernel_rfl) (fun _ _ _ h => h) (Or.inl ⟨by kernel_rfl, ?_⟩) (by assumption) ?_
    rotate_left
    · (intro w hSw; (try dsimp only at hSw); go_simp; (try with_reducible rfl))
    try simp only [Act.put, List.getElem_toArray, List.getElem_cons_succ, List.getElem_cons_zero, List.setIfInBounds_toArray, List.set_cons_zero, List.set_cons_succ]
    refine wpAnyH_take (i := 5) (v := ?_) rfl (by kernel_rfl) (by kernel_rfl) (by kernel_rfl) (fun _ _ _ h => h) (Or.inl ⟨by kernel_rfl, ?_⟩) (by assumption) ?_
    rotate_left
    · (intro w hSw; (try dsimp only at hSw); go_simp; (try with_reducible rfl))
    try simp only [Act.put, List.getElem_toArray, List.getElem_cons_succ, List.getElem_cons_zero, List.setIfInBounds_toArray, List.set_cons_zero, List.set_cons_succ]
    refine wpAnyH_take (i := 6) (v := ?_) rfl (by kernel_rfl) (by kernel_rfl) (by kernel_rfl) (fun _ _ _ h => h) (Or.inl ⟨by kernel_rfl, ?_⟩) (by assumption) ?_
    rotate_left
    · (intro w hSw; (try dsimp only at hSw); go_simp; (try with_reducible rfl))
    try simp only [Act.put, List.getElem_toArray, List.getElem_cons_succ, List.getElem_cons_zero, List.setIfInBounds_toArray, List.set_cons_zero, List.set_cons_succ]
    refine wpAnyH_take (i := 7) (v := ?_) rfl (by kernel_rfl) (by kernel_rfl) (by kernel_rfl) (fun _ _ _ h => h) (Or.inl ⟨by kernel_rfl, ?_⟩) (by assumption) ?_
    rotate_left
    · (intro w hSw; (try dsimp only at hSw); go_simp; (try with_reducible rfl))
    try simp only [Act.put, List.getElem_toArray, List.getElem_cons_succ, List.getElem_cons_zero, List.setIfInBounds_toArray, List.set_cons_zero, List.set_cons_succ]
    refine wpAnyH_take (i := 8) (v := ?_) rfl (by kernel_rfl) (by kernel_rfl) (by kernel_rfl) (fun _ _ _ h => h) (Or.inl ⟨by kernel_rfl, ?_⟩) (by assumption) ?_
    rotate_left
    · (intro w hSw; (try dsimp only at hSw); go_simp; (try with_reducible rfl))
    try simp only [Act.put, List.getElem_toArray, List.getElem_cons_succ, List.getElem_cons_zero, List.setIfInBounds_toArray, List.set_cons_zero, List.set_cons_succ]
    refine wpAnyH_take (i := 9) (v := ?_) rfl (by kernel_rfl) (by kernel_rfl) (by kernel_rfl) (fun _ _ _ h => h) (Or.inl ⟨by kernel_rfl, ?_⟩) (by assumption) ?_
    rotate_left
    · (intro w hSw; (try dsimp only at hSw); go_simp; (try with_reducible rfl))
    try simp only [Act.put, List.getElem_toArray, List.getElem_cons_succ, List.getElem_cons_zero, List.setIfInBounds_toArray, List.set_cons_zero, List.set_cons_succ]
    refine wpAnyH_take (i := 10) (v := ?_) rfl (by kernel_rfl) (by kernel_rfl) (by kernel_rfl) (fun _ _ _ h => h) (Or.inl ⟨by kernel_rfl, ?_⟩) (by assumption) ?_
    rotate_left
    · (intro w hSw; (try dsimp only at hSw); go_simp; (try with_reducible rfl))
    try simp only [Act.put, List.getElem_toArray, List.getElem_cons_succ, List.getElem_cons_zero, List.setIfInBounds_toArray, List.set_cons_zero, List.set_cons_succ]
    refine wpAnyH_take (i := 11) (v := ?_) rfl (by kernel_rfl) (by kernel_rfl) (by kernel_rfl) (fun _ _ _ h => h) (Or.inl ⟨by kernel_rfl, ?_⟩) (by assumption) ?_
    rotate_left
    · (intro w hSw; (try dsimp only at hSw); go_simp; (try with_reducible rfl))
    try simp only [Act.put, List.getElem_toArray, List.getElem_cons_succ, List.getElem_cons_zero, List.setIfInBounds_toArray, List.set_cons_zero, List.set_cons_succ]
    refine wpAnyH_take (i := 12) (v := ?_) rfl (by kernel_rfl) (by kernel_rfl) (by kernel_rfl) (fun _ _ _ h => h) (Or.inl ⟨by kernel_rfl, ?_⟩) (by assumption) ?_
    rotate_left
    · (intro w hSw; (try dsimp only at hSw); go_simp; (try with_reducible rfl))
    try simp only [Act.put, List.getElem_toArray, List.getElem_cons_succ, List.getElem_cons_zero, List.setIfInBounds_toArray, List.set_cons_zero, List.set_cons_succ]
    refine wpAnyH_take (i := 13) (v := ?_) rfl (by kernel_rfl) (by kernel_rfl) (by kernel_rfl) (fun _ _ _ h => h) (Or.inl ⟨by kernel_rfl, ?_⟩) (by assumption) ?_
    rotate_left
    · (intro w hSw; (try dsimp only at hSw); go_simp; (try with_reducible rfl))
    try simp only [Act.put, List.getElem_toArray, List.getElem_cons_succ, List.getElem_cons_zero, List.setIfInBounds_toArray, List.set_cons_zero, List.set_cons_succ]
    refine wpAnyH_take (i := 14) (v := ?_) rfl (by kernel_rfl) (by kernel_rfl) (by kernel_rfl) (fun _ _ _ h => h) (Or.inl ⟨by kernel_rfl, ?_⟩) (by assumption) ?_
    rotate_left
    · (intro w hSw; (try dsimp only at hSw); go_simp; (try with_reducible rfl))
    try simp only [Act.put, List.getElem_toArray, List.getElem_cons_succ, List.getElem_cons_zero, List.setIfInBounds_toArray, List.set_cons_zero, List.set_cons_succ]
    refine wpAnyH_take (i := 15) (v := ?_) rfl (by kernel_rfl) (by kernel_rfl) (by kernel_rfl) (fun _ _ _ h => h) (Or.inl ⟨by kernel_rfl, ?_⟩) (by assumption) ?_
    rotate_left
    · (intro w hSw; (try dsimp only at hSw); go_simp; (try with_reducible rfl))
    try simp only [Act.put, List.getElem_toArray, List.getElem_cons_succ, List.getElem_cons_zero, List.setIfInBounds_toArray, List.set_cons_zero, List.set_cons_succ]
    refine wpAnyH_take (i := 16) (v := ?_) rfl (by kernel_rfl) (by kernel_rfl) (by kernel_rfl) (fun _ _ _ h => h) (Or.inl ⟨by kernel_rfl, ?_⟩) (by assumption) ?_
    rotate_left
    · (intro w hSw; (try dsimp only at hSw); go_simp; (try with_reducible rfl))
    try simp only [Act.put, List.getElem_toArray, List.getElem_cons_succ, List.getElem_cons_zero, List.setIfInBounds_toArray, List.set_cons_zero, List.set_cons_succ]
    refine wpAnyH_take (i := 17) (v := ?_) rfl (by kernel_rfl) (by kernel_rfl) (by kernel_rfl) (fun _ _ _ h => h) (Or.inl ⟨by kernel_rfl, ?_⟩) (by assumption) ?_
    rotate_left
    · (intro w hSw; (try dsimp only at hSw); go_simp; (try with_reducible rfl))
    try simp only [Act.put, List.getElem_toArray, List.getElem_cons_succ, List.getElem_cons_zero, List.setIfInBounds_toArray, List.set_cons_zero, List.set_cons_succ]
    refine wpAnyH_ready (rs := [3]) (by kernel_rfl) (by simp) ?_
    refine AllReadyH.cons rfl (fun K hK => ?_) AllReadyH.nil
    go_simp
    (go_at_call 86; refine (count_any (calAt n d) _ _ _ (HCA8.out.below (b_drew (Below.refl _ _))) HCI.out.2.2 HDA.out HDB.out).mono ?_; rintro e w9 ⟨rfl, hb⟩; have HB9 := Lib.hid (bdr hb); clear hb)
    go_wp2_with fail
    refine hK.out _ _ (HST.out _ HB9.out) (fun hHeld => ?_)
    clear hK K
    try simp only [Act.put, List.getElem_toArray, List.getElem_cons_succ, List.getElem_cons_zero, List.setIfInBounds_toArray, List.set_cons_zero, List.set_cons_succ]
    refine wpAnyH_take (i := 18) (v := ?_) rfl (by kernel_rfl) (by kernel_rfl) (by kernel_rfl) (fun _ _ _ h => h) (Or.inl ⟨by kernel_rfl, ?_⟩) (by assumption) ?_
    rotate_left
    · (intro w hSw; (try dsimp only at hSw); go_simp; (try with_reducible rfl))
    try simp only [Act.put, List.getElem_toArray, List.getElem_cons_succ, List.getElem_cons_zero, List.setIfInBounds_toArray, List.set_cons_zero, List.set_cons_succ]
    refine wpAnyH_done (by kernel_rfl) ?_ _
    clear hHeld
    have HF9 := Lib.hid (HF8.out.trans (FrW.of_below HB9.out))
    have HB39 := Lib.hid (bt HB38.out HB9.out)
    have HW9 := Lib.hid (HW3.out.below HB39.out)
    have HBX9 := Lib.hid (HB3.out.trans (HB39.out.mono HW3.out.le))
    have HEND : Hid (endW n k d (wayW n nx fr o d t).2.2 = (en, 0)) := by
      show _ = _
      unfold endW
      rw [← HARR.out, HEE.out]
    by_cases hg : pr < countR (calAt n d) (dayOf (calAt n d) t) (dayOf (calAt n d) en)
    · have HKF : Hid (keepF n nx fr k o d pr L = (190, [])) := by
        show _ = _
        have h9 : keepF n nx fr k o d pr (L.drop j) = (190, []) := by
          rw [HSTEP.out, keepF, if_neg (by rw [HR0.out]; decide), if_neg (by rw [HEND.out]; exact fun h => h rfl), if_pos (by rw [HEND.out]; exact hg)]
        rw [HKX.out, h9]
        unfold afterW
        rw [if_pos (by decide)]
      gi_wp2
      exact ⟨rfl, HKB.out _ _ HF9.out, v3, 190, rfl, by decide, HFX.out.trans HF9.out, HBX.out.trans HBX9.out, HKF.out⟩
    have HKI : Hid (KeI w0.heap.size w2 B n fr till nx (.slice A nx.length c) dv v xs k o d pr L (j + 1) w9) := by
      refine ⟨v3, ds ++ (wayW n nx fr o d t).2.1, by rw [← List.append_assoc]; exact HW9.out, HFX.out.trans HF9.out, HBX.out.trans HBX9.out, fun r hr => (HF9.out.2 r (by have := HSZ.out; rcases hr with h | h <;> omega) (by have := HPL.out.2.1; rcases hr with h | h <;> omega) (HNX.out r hr)).2, ?_, ?_⟩
      · have h1 := wayR_len n nx d 19 o t
        have h2 : (wayW n nx fr o d t).2.1.length = (wayR n nx d 19 o t).2.length - 1 := by
          show (daysW n fr (wayR n nx d 19 o t).2).length = _
          unfold daysW
          simp
        have := HDL.out
        simp only [List.length_append]
        omega
      · have h9 : keepF n nx fr k o d pr (L.drop j) = if (keepF n nx fr k o d pr (L.drop (j + 1))).1 ≠ 0 then ((keepF n nx fr k o d pr (L.drop (j + 1))).1, []) else (0, (wayW n nx fr o d t).2.1 ++ (keepF n nx fr k o d pr (L.drop (j + 1))).2) := by
          rw [HSTEP.out, keepF, if_neg (by rw [HR0.out]; decide), if_neg (by rw [HEND.out]; exact fun h => h rfl), if_neg (by rw [HEND.out]; exact hg)]
        rw [HKX.out, h9]
        unfold afterW
        by_cases hz : (keepF n nx fr k o d pr (L.drop (j + 1))).1 = 0
        · simp [hz]
        · simp [hz]
    have HKW : Hid (KwR w0.heap.size B P2 P3 P4 X w9) := by
      have hp : ∀ b, b = P2 ∨ b = P3 ∨ b = P4 → w9.heap[b]? = X.heap[b]? := fun b hb => by
        have h1 := HP.out b hb
        have h2 := HBK.out.size
        have h3 : b < w2.heap.size := by have := HPL.out.1; rcases hb with rfl | rfl | rfl <;> omega
        have h4 := HFX.out.1
        exact (HF9.out.2 b (by omega) (by omega) (HBOX.out b (by omega) h3).2).1
      refine ⟨HF9.out.1, fun b hb => HBX9.out.block b hb, hp P2 (.inl rfl), hp P3 (.inr (.inl rfl)), hp P4 (.inr (.inr rfl)), fun i hi => ?_⟩
      rcases (by omega : i = 0 ∨ i = 1 ∨ i = 2 ∨ i = 3 ∨ i = 4 ∨ i = 5 ∨ i = 6 ∨ i = 7 ∨ i = 8 ∨ i = 9) with rfl | rfl | rfl | rfl | rfl | rfl | rfl | rfl | rfl | rfl <;> exact (cell_of_row _ _ _ _ _ _ HW9.out.row).trans (cell_of_row _ _ _ _ _ _ HWX.out.row).symm
    gi_wp2
    exact ⟨HF9.out.1, HKB.out _ _ HF9.out, HKW.out, by first | exact HKI.out | (have hki := HKI.out; rw [hdv] at hki; exact hki)⟩
end Go.Proofs.YtjpabeoflhkfkaaGreatDoor
namespace Go.Proofs.YtjpabeoflhkfkaaGreatDoor
open Go.RowKit
attribute [local go_sem] Oper.semAt_some

set_option maxHeartbeats 400000 in
theorem winside_any (i m : Int) (w : World) : Calls Tryz.prog 123 #[iV i, iV m] w fun e w' => e = .returned (.bool (decide (0 ≤ i) && decide (i < m))) ∧ w = w' := by
  by_cases h : 0 ≤ i
  · have HR : Hid ((decide (0 ≤ i) && decide (i < m)) = decide (i < m)) := by show _ = _; simp [h]
    go_enter Tryz.func123, Tryz.ntmps123
    go_wp2
    go_ret
    exact ⟨ret_bool HR.out.symm, rfl⟩
  · have HR : Hid ((decide (0 ≤ i) && decide (i < m)) = false) := by show _ = _; simp [h]
    go_enter Tryz.func123, Tryz.ntmps123
    go_wp2
    go_ret
    exact ⟨ret_bool HR.out.symm, rfl⟩
def dayOk (x : Int) : Bool := decide (-1 ≤ x) && decide (x ≤ 65518)
set_option maxHeartbeats 400000 in
theorem wpromised_any (o x : Int) (w : World) : Calls Tryz.prog 79 #[iV o, iV x] w fun e w' => e = .returned (.bool (dayOk x)) ∧ w = w' := by
  by_cases h : -1 ≤ x
  · have HR : Hid (dayOk x = decide (x ≤ 65518)) := by show _ = _; unfold dayOk; simp [h]
    go_enter Tryz.func79, Tryz.ntmps79
    go_wp2
    go_ret
    exact ⟨ret_bool HR.out.symm, rfl⟩
  · have HR : Hid (dayOk x = false) := by show _ = _; unfold dayOk; simp [h]
    go_enter Tryz.func79, Tryz.ntmps79
    go_wp2
    go_ret
    exact ⟨ret_bool HR.out.symm, rfl⟩
/-- The test of a line in a table of lines. -/
def lineOk (n : Net) (o x : Int) : Bool := (x == -1) || (decide (0 ≤ x) && decide (x < (n.lins.length : Int)) && ((linAt n x.toNat).frm == o))
set_option maxHeartbeats 2000000 in
set_option maxRecDepth 100000 in
theorem wline_any (P N : Nat) (n : Net) (o x : Int) (w : World) (hN : NetP w N n) (hP : w.cell? ⟨P, 0, none⟩ = some (.pointer (some ⟨N, 0, none⟩))) :
    Calls Tryz.prog 122 #[iV o, iV x, .pointer (some ⟨P, 0, none⟩)] w fun e w' => e = .returned (.bool (lineOk n o x)) ∧ w = w' := by
  by_cases h1 : x = -1
  · subst h1
    have HR : Hid (lineOk n o (-1) = true) := rfl
    have e1 : ((-1 : Int) == -1) = true := rfl
    go_enter Tryz.func122, Tryz.ntmps122
    go_wp2_with fail
    go_ret
    exact ⟨ret_bool HR.out.symm, rfl⟩
  have e1 : (x == -1) = false := by rw [beq_eq_false_iff_ne]; exact h1
  have n4 : w.cell? ⟨N, 4, none⟩ = some (.slice n.linA n.lins.length n.linC) := hN.box 4 _ rfl
  by_cases h2 : 0 ≤ x ∧ x < (n.lins.length : Int)
  · obtain ⟨li, rfl⟩ : ∃ li : Nat, x = (li : Int) := ⟨x.toNat, by omega⟩
    have hl : li < n.lins.length := by omega
    obtain ⟨-, lb, lo, hlA, -, -, hlc⟩ := elem_at encLin_len hN.net.lins (linAt_get hl) (by omega)
    have l1 : w.cell? ⟨lb, lo + li * 6 + 1, none⟩ = some (iV (linAt n li).frm) := hlc 1 _ rfl
    rw [hlA] at n4
    have j1 : (0 : Int) ≤ (li : Int) := by omega
    have j2 : (li : Int) < (n.lins.length : Int) := by omega
    have HR : Hid (lineOk n o (li : Int) = ((linAt n li).frm == o)) := by
      show _ = _
      unfold lineOk
      rw [e1, Int.toNat_natCast]
      simp [j2]
    clear hlc hlA hN h2 h1
    go_enter Tryz.func122, Tryz.ntmps122
    go_wp2_with (go_at_call 123; refine (winside_any _ _ _).mono ?_; rintro e w1 ⟨rfl, rfl⟩; rw [show (decide ((0 : Int) ≤ (li : Int)) && decide ((li : Int) < (n.lins.length : Int))) = true by simp [j1, j2]])
    go_ret
    exact ⟨ret_bool HR.out.symm, rfl⟩
  · have hz : (decide (0 ≤ x) && decide (x < (n.lins.length : Int))) = false := by
      rw [Bool.and_eq_false_iff]
      simp only [decide_eq_false_iff_not]
      omega
    have HR : Hid (lineOk n o x = false) := by
      show _ = _
      unfold lineOk
      rw [e1, hz]
      rfl
    clear hN h1 h2
    go_enter Tryz.func122, Tryz.ntmps122
    go_wp2_with (go_at_call 123; refine (winside_any _ _ _).mono ?_; rintro e w1 ⟨rfl, rfl⟩; rw [hz])
    go_ret
    exact ⟨ret_bool HR.out.symm, rfl⟩
end Go.Proofs.YtjpabeoflhkfkaaGreatDoor
namespace Go.Proofs.YtjpabeoflhkfkaaGreatDoor
open Go.RowKit
attribute [local go_sem] Oper.semAt_some

def sqF (good : Int → Int → Bool) (m : Int) : Nat → List NsC → Bool
  | _, [] => true
  | k, r :: l => ((r.ns.length : Int) == m) && (r.ns.all (good k) && sqF good m (k + 1) l)
def squareB (good : Int → Int → Bool) (m : Int) (rows : List NsC) : Bool := ((rows.length : Int) == m) && sqF good m 0 rows
set_option maxHeartbeats 4000000 in
set_option maxRecDepth 100000 in
theorem square_any (gf : FuncId) (lb : Array Value) (good : Int → Int → Bool) (A : Option Addr) (c : Nat) (rows : List NsC) (m : Int) (w : World) (hT : Tab w A rows) (hx : rows.length ≤ 1000000)
    (hg : ∀ (o x : Int), Calls Tryz.prog gf (#[iV o, iV x] ++ lb) w fun e w' => e = .returned (.bool (good o x)) ∧ w = w') (eg : ∀ args w, (callFunc gf args).run Tryz.prog w = .ok (.enter gf args) w) :
    Calls Tryz.prog 77 #[.slice A rows.length c, iV m, .func (.func gf) #[] lb] w fun e w' => e = .returned (.bool (squareB good m rows)) ∧ w = w' := by
  have HT := Lib.hid hT
  have HGD := Lib.hid hg
  clear hT hg
  go_enter Tryz.func77, Tryz.ntmps77
  by_cases hm : (rows.length : Int) = m
  case neg =>
    have e1 : ((rows.length : Int) == m) = false := by rw [beq_eq_false_iff_ne]; exact hm
    have e2 : ((rows.length : Int) != m) = true := by simp [hm]
    have HR : Hid (squareB good m rows = false) := by show _ = _; unfold squareB; rw [e1]; rfl
    clear hm
    go_wp2_with fail
    go_ret
    exact ⟨ret_bool HR.out.symm, rfl⟩
  have e1 : ((rows.length : Int) == m) = true := by rw [beq_iff_eq]; exact hm
  have e2 : ((rows.length : Int) != m) = false := by simp [hm]
  have HR0 : Hid (squareB good m rows = sqF good m 0 rows) := by show _ = _; unfold squareB; rw [e1]; rfl
  clear hm
  go_wp2_with fail
  clear e1 e2
  go_loop [17] (fun i => ∃ k : Nat, k ≤ rows.length ∧ i = iV k ∧ squareB good m rows = sqF good m k (rows.drop k)) (fun i => rows.length + 1 - (intOf i).toNat)
  case atStart => exact ⟨0, by omega, rfl, by rw [List.drop_zero]; exact HR0.out⟩
  case round =>
  obtain ⟨k, hk, rfl, hrr⟩ := hrel
  have HRR := Lib.hid hrr; clear hrr
  have k0 : (0 : Int) ≤ (k : Int) := by omega
  by_cases hlt : k < rows.length
  case neg =>
    have k1 : ¬ (k : Int) < (rows.length : Int) := by omega
    have HZ : Hid (squareB good m rows = true) := by
      show _ = _
      rw [HRR.out, List.drop_eq_nil_of_le (by omega)]
      rfl
    go_wp2_with fail
    go_ret
    exact ⟨ret_bool HZ.out.symm, rfl⟩
  have HLT := Lib.hid hlt
  have k1 : (k : Int) < (rows.length : Int) := by omega
  obtain ⟨r, hr⟩ : ∃ r, rows[k]? = some r := ⟨_, List.getElem?_eq_getElem hlt⟩
  have HDR : Hid (sqF good m k (rows.drop k) = (((r.ns.length : Int) == m) && (r.ns.all (good k) && sqF good m (k + 1) (rows.drop (k + 1))))) := by
    show _ = _
    rw [List.drop_eq_getElem_cons hlt]
    rw [List.getElem?_eq_getElem hlt] at hr
    rw [Option.some.inj hr]
    rfl
  obtain ⟨hr1, -, hr3⟩ := HT.out.row r (List.mem_of_getElem? hr)
  have HROW := Lib.hid hr1
  unfold maxLen at hr3
  obtain ⟨nb, no, hnA, -, hnc⟩ := HT.out.rd.get (i := k) (by rw [List.length_map]; exact hlt)
  have c1 : w.cell? ⟨nb, no + k, none⟩ = some (.slice r.A r.ns.length r.c) := hnc k _ (by rw [List.getElem?_map, hr]; rfl)
  have HNA := Lib.hid hnA
  clear hr hr1 hnc
  rw [hnA]
  clear hnA
  by_cases hrl : (r.ns.length : Int) = m
  case neg =>
    have e1 : ((r.ns.length : Int) == m) = false := by rw [beq_eq_false_iff_ne]; exact hrl
    have e2 : ((r.ns.length : Int) != m) = true := by simp [hrl]
    have HZ : Hid (squareB good m rows = false) := by show _ = _; rw [HRR.out, HDR.out, e1]; rfl
    clear hrl
    go_wp2_with fail
    go_ret
    exact ⟨ret_bool HZ.out.symm, rfl⟩
  have e1 : ((r.ns.length : Int) == m) = true := by rw [beq_iff_eq]; exact hrl
  have e2 : ((r.ns.length : Int) != m) = false := by simp [hrl]
  have HZ1 : Hid (squareB good m rows = (r.ns.all (good k) && sqF good m (k + 1) (rows.drop (k + 1)))) := by show _ = _; rw [HRR.out, HDR.out, e1]; rfl
  clear hrl
  go_wp2_with fail
  clear e1 e2
  go_loop [28] (fun i => ∃ j : Nat, j ≤ r.ns.length ∧ i = iV j ∧ r.ns.all (good k) = (r.ns.drop j).all (good k)) (fun i => r.ns.length + 1 - (intOf i).toNat)
  case atStart => exact ⟨0, by omega, rfl, by rw [List.drop_zero]⟩
  case round =>
  obtain ⟨j, hj, rfl, hja⟩ := hrel
  have HJA := Lib.hid hja; clear hja
  have j0 : (0 : Int) ≤ (j : Int) := by omega
  by_cases hjt : j < r.ns.length
  case neg =>
    have j1 : ¬ (j : Int) < (r.ns.length : Int) := by omega
    have HN : Hid (squareB good m rows = sqF good m (k + 1) (rows.drop (k + 1))) := by
      show _ = _
      rw [HZ1.out, HJA.out, List.drop_eq_nil_of_le (by omega)]
      rfl
    go_wp2_with fail
    go_round
    case rel => exact ⟨k + 1, by have := HLT.out; omega, by go_num, HN.out⟩
    case measure => have := HLT.out; simp [intOf]; omega
  have HJT := Lib.hid hjt
  have j1 : (j : Int) < (r.ns.length : Int) := by omega
  obtain ⟨x, hxv⟩ : ∃ x, r.ns[j]? = some x := ⟨_, List.getElem?_eq_getElem hjt⟩
  obtain ⟨rb, ro, hrA, -, hrc⟩ := HROW.out.get (i := j) (by rw [List.length_map]; exact hjt)
  have c2 : w.cell? ⟨rb, ro + j, none⟩ = some (iV x) := hrc j _ (by rw [List.getElem?_map, hxv]; rfl)
  have HJX : Hid ((r.ns.drop j).all (good k) = (good k x && (r.ns.drop (j + 1)).all (good k))) := by
    show _ = _
    rw [List.drop_eq_getElem_cons hjt]
    rw [List.getElem?_eq_getElem hjt] at hxv
    rw [← Option.some.inj hxv]
    rfl
  have HRA := Lib.hid hrA
  clear hrc hxv
  rw [hrA]
  clear hrA
  go_wp2_with fail
  refine (HGD.out k x).mono ?_
  rintro e w1 ⟨rfl, rfl⟩
  cases hgx : good k x with
  | false =>
    have HZ : Hid (squareB good m rows = false) := by show _ = _; rw [HZ1.out, HJA.out, HJX.out, hgx]; rfl
    clear hgx
    go_wp2_with fail
    go_ret
    exact ⟨ret_bool HZ.out.symm, rfl⟩
  | true =>
    have HZ : Hid (r.ns.all (good k) = (r.ns.drop (j + 1)).all (good k)) := by show _ = _; rw [HJA.out, HJX.out, hgx]; rfl
    clear hgx
    go_wp2_with fail
    go_round
    case rel => exact ⟨j + 1, by have := HJT.out; omega, by go_num, HZ.out⟩
    case measure => have := HJT.out; simp [intOf]; omega
set_option maxHeartbeats 400000 in
theorem wlinefrom_any (N : Nat) (w : World) : Calls Tryz.prog 78 #[.pointer (some ⟨N, 0, none⟩)] w fun e w' => e = .returned (.func (.func 122) #[] #[.pointer (some ⟨w.heap.size, 0, none⟩)]) ∧ w'.cell? ⟨w.heap.size, 0, none⟩ = some (.pointer (some ⟨N, 0, none⟩)) ∧ Below w.heap.size w w' := by
  go_enter Tryz.func78, Tryz.ntmps78
  go_wp2
  go_ret
  exact ⟨rfl, cell_of_row _ _ 0 _ _ _ (heap_alloc_new w _), ba w _⟩
end Go.Proofs.YtjpabeoflhkfkaaGreatDoor
namespace Go.Proofs.YtjpabeoflhkfkaaGreatDoor
open Go.RowKit
attribute [local go_sem] Oper.semAt_some

structure DaC where
  rows : List NsC
  A : Option Addr
  c : Nat
abbrev slD (x : DaC) : Value := .slice x.A x.rows.length x.c
/-- A table of promises that came in. -/
structure DTab (w : World) (D : Option Addr) (ds : List DaC) : Prop where
  rd : Rd w D (ds.map slD)
  row : ∀ r ∈ ds, Tab w r.A r.rows ∧ r.rows.length ≤ 1000000
theorem DTab.below {w w' : World} {D : Option Addr} {ds : List DaC} (h : DTab w D ds) (hb : Below w.heap.size w w') : DTab w' D ds := ⟨h.rd.below hb, fun r hr => ⟨(h.row r hr).1.below hb, (h.row r hr).2⟩⟩
/-- A plan's block. -/
structure PlanP (w : World) (Q : Nat) (fr till : Int) (nv dv : Value) : Prop where
  c0 : w.cell? ⟨Q, 0, none⟩ = some (iV fr)
  c1 : w.cell? ⟨Q, 1, none⟩ = some (iV till)
  c2 : w.cell? ⟨Q, 2, none⟩ = some nv
  c3 : w.cell? ⟨Q, 3, none⟩ = some dv
theorem PlanP.below {w w' : World} {Q : Nat} {fr till : Int} {nv dv : Value} (h : PlanP w Q fr till nv dv) (hb : Below w.heap.size w w') : PlanP w' Q fr till nv dv :=
  ⟨cell_keepW hb h.c0, cell_keepW hb h.c1, cell_keepW hb h.c2, cell_keepW hb h.c3⟩
def rangeB (fr till : Int) : Bool := decide (0 ≤ fr) && (decide (fr < till) && (decide (till ≤ 600) && decide (till - fr ≤ 60)))
def formedB (n : Net) (fr till : Int) (nx : List NsC) (ds : List DaC) : Bool :=
  rangeB fr till && (((ds.length : Int) == (n.clss.length : Int)) && (squareB (lineOk n) (n.offs.length : Int) nx && ds.all fun r => squareB (fun _ x => dayOk x) (n.offs.length : Int) r.rows))
set_option maxHeartbeats 8000000 in
set_option maxRecDepth 100000 in
theorem wformed_any (N Q : Nat) (n : Net) (fr till : Int) (A : Option Addr) (c : Nat) (nx : List NsC) (D : Option Addr) (dc : Nat) (ds : List DaC) (w : World) (hN : NetP w N n) (hQ : PlanP w Q fr till (.slice A nx.length c) (.slice D ds.length dc)) (hT : Tab w A nx) (hx : nx.length ≤ 1000000) (hD : DTab w D ds) (hd : ds.length ≤ 1000000) :
    Calls Tryz.prog 34 #[.pointer (some ⟨N, 0, none⟩), .pointer (some ⟨Q, 0, none⟩)] w fun e w' => e = .returned (.bool (formedB n fr till nx ds)) ∧ Below w.heap.size w w' := by
  have HN := Lib.hid hN
  have HQ := Lib.hid hQ
  have HT := Lib.hid hT
  have HD := Lib.hid hD
  have c0 := hQ.c0
  have c1 := hQ.c1
  clear hN hQ hT hD
  go_enter Tryz.func34, Tryz.ntmps34
  go_upto_region 1 with fail
  by_cases a1 : fr < 0
  · have HZ : Hid (formedB n fr till nx ds = false) := by
      show _ = _
      unfold formedB rangeB
      rw [show decide (0 ≤ fr) = false by simp; omega]
      rfl
    go_quiet (fail)
    clear a1
    go_wp2_with fail
    go_ret
    exact ⟨ret_bool HZ.out.symm, below_drewN (Below.refl _ _) _⟩
  by_cases a2 : till ≤ fr
  · have HZ : Hid (formedB n fr till nx ds = false) := by
      show _ = _
      unfold formedB rangeB
      rw [show decide (fr < till) = false by simp; omega]
      simp
    go_quiet (fail)
    clear a1 a2
    go_wp2_with fail
    go_ret
    exact ⟨ret_bool HZ.out.symm, below_drewN (Below.refl _ _) _⟩
  by_cases a3 : 600 < till
  · have HZ : Hid (formedB n fr till nx ds = false) := by
      show _ = _
      unfold formedB rangeB
      rw [show decide (till ≤ 600) = false by simp; omega]
      simp
    go_quiet (fail)
    clear a1 a2 a3
    go_wp2_with fail
    go_ret
    exact ⟨ret_bool HZ.out.symm, below_drewN (Below.refl _ _) _⟩
  have wt : IntKind.i64.wrap (till - fr) = till - fr := IntWalk.i64_in _ (by omega)
  by_cases a4 : 60 < till - fr
  · have HZ : Hid (formedB n fr till nx ds = false) := by
      show _ = _
      unfold formedB rangeB
      rw [show decide (till - fr ≤ 60) = false by simp; omega]
      simp
    go_quiet (fail)
    clear a1 a2 a3 a4 wt
    go_wp2_with fail
    go_ret
    exact ⟨ret_bool HZ.out.symm, below_drewN (Below.refl _ _) _⟩
  have HRB : Hid (rangeB fr till = true) := by
    show _ = _
    unfold rangeB
    simp
    omega
  go_quiet (fail)
  have HB1 : Hid (Below w.heap.size w (w.drewN nq)) := below_drewN (Below.refl _ _) nq
  generalize w.drewN nq = w1 at *
  have HN1 := Lib.hid (HN.out.below HB1.out)
  have HQ1 := Lib.hid (HQ.out.below HB1.out)
  have HT1 := Lib.hid (HT.out.below HB1.out)
  have HD1 := Lib.hid (HD.out.below HB1.out)
  have hcl := HN1.out.net.lens.2.2.2.2.2
  have hol := HN1.out.net.lens.2.2.2.1
  unfold maxLen at hcl hol
  clear c0 c1 wt a1 a2 a3 a4
  by_cases hdl : (ds.length : Int) = (n.clss.length : Int)
  case neg =>
    have e1 : ((ds.length : Int) == (n.clss.length : Int)) = false := by rw [beq_eq_false_iff_ne]; exact hdl
    have e2 : ((ds.length : Int) != (n.clss.length : Int)) = true := by simp; omega
    have HZ : Hid (formedB n fr till nx ds = false) := by
      show _ = _
      unfold formedB
      rw [e1]
      simp
    have c3 := HQ1.out.c3
    have n5 : w1.cell? ⟨N, 5, none⟩ = some (.slice n.clsA n.clss.length n.clsC) := HN1.out.box 5 _ rfl
    clear hdl
    go_wp2_with fail
    go_quiet (fail)
    go_wp2_with fail
    go_ret
    exact ⟨ret_bool HZ.out.symm, below_drewN HB1.out _⟩
  have e1 : ((ds.length : Int) == (n.clss.length : Int)) = true := by rw [beq_iff_eq]; exact hdl
  have e2 : ((ds.length : Int) != (n.clss.length : Int)) = false := by simp; omega
  have HST : Hid (∀ w', Below w1.heap.size w1 w' → (fun w' => w'.cell? ⟨Q, 3, none⟩ = some (.slice D ds.length dc) ∧ w'.cell? ⟨Q, 2, none⟩ = some (.slice A nx.length c) ∧ w'.cell? ⟨N, 5, none⟩ = some (.slice n.clsA n.clss.length n.clsC) ∧ w'.cell? ⟨N, 3, none⟩ = some (.slice n.offA n.offs.length n.offC)) w') := fun w' hb =>
    ⟨(HQ1.out.below hb).c3, (HQ1.out.below hb).c2, (HN1.out.below hb).box 5 _ rfl, (HN1.out.below hb).box 3 _ rfl⟩
  have HE := Lib.hid e1
  go_wp2_with fail
  refine wp_region_noPanic ?_
  refine wp_region_held_drew (S := fun w' => w'.cell? ⟨Q, 3, none⟩ = some (.slice D ds.length dc) ∧ w'.cell? ⟨Q, 2, none⟩ = some (.slice A nx.length c) ∧ w'.cell? ⟨N, 5, none⟩ = some (.slice n.clsA n.clss.length n.clsC) ∧ w'.cell? ⟨N, 3, none⟩ = some (.slice n.offA n.offs.length n.offC)) (by kernel_rfl) (HST.out _ (b_drew (Below.refl _ _))) (fun hHeld => ?_)
  refine wpAnyH_take (i := 0) (v := ?_) rfl (by kernel_rfl) (by kernel_rfl) (by kernel_rfl) (fun _ _ _ h => h) (Or.inl ⟨by kernel_rfl, ?_⟩) (by assumption) ?_
  rotate_left
  · (intro w hSw; (try dsimp only at hSw); go_simp; (try with_reducible rfl))
  try simp only [Act.put, List.getElem_toArray, List.getElem_cons_zero, List.setIfInBounds_toArray, List.set_cons_zero, List.set_cons_succ]
  refine wpAnyH_take (i := 1) (v := ?_) rfl (by kernel_rfl) (by kernel_rfl) (by kernel_rfl) (fun _ _ _ h => h) (Or.inl ⟨by kernel_rfl, ?_⟩) (by assumption) ?_
  rotate_left
  · (intro w hSw; (try dsimp only at hSw); go_simp; (try with_reducible rfl))
  try simp only [Act.put, List.getElem_toArray, List.getElem_cons_succ, List.getElem_cons_zero, List.setIfInBounds_toArray, List.set_cons_zero, List.set_cons_succ]
  refine wpAnyH_take (i := 2) (v := ?_) rfl (by kernel_rfl) (by kernel_rfl) (by kernel_rfl) (fun _ _ _ h => h) (Or.inl ⟨by kernel_rfl, ?_⟩) (by assumption) ?_
  rotate_left
  · (intro w hSw; (try dsimp only at hSw); go_simp; (try with_reducible rfl))
  try simp only [Act.put, List.getElem_toArray, List.getElem_cons_succ, List.getElem_cons_zero, List.setIfInBounds_toArray, List.set_cons_zero, List.set_cons_succ]
  refine wpAnyH_take (i := 3) (v := ?_) rfl (by kernel_rfl) (by kernel_rfl) (by kernel_rfl) (fun _ _ _ h => h) (Or.inl ⟨by kernel_rfl, ?_⟩) (by assumption) ?_
  rotate_left
  · (intro w hSw; (try dsimp only at hSw); go_simp; (try with_reducible rfl))
  try simp only [Act.put, List.getElem_toArray, List.getElem_cons_succ, List.getElem_cons_zero, List.setIfInBounds_toArray, List.set_cons_zero, List.set_cons_succ]
  refine wpAnyH_take (i := 4) (v := ?_) rfl (by kernel_rfl) (by kernel_rfl) (by kernel_rfl) (fun _ _ _ h => h) (Or.inl ⟨by kernel_rfl, ?_⟩) (by assumption) ?_
  rotate_left
  · (intro w hSw; (try dsimp only at hSw); go_simp; (try with_reducible rfl))
  try simp only [Act.put, List.getElem_toArray, List.getElem_cons_succ, List.getElem_cons_zero, List.setIfInBounds_toArray, List.set_cons_zero, List.set_cons_succ]
  refine wpAnyH_take (i := 5) (v := ?_) rfl (by kernel_rfl) (by kernel_rfl) (by kernel_rfl) (fun _ _ _ h => h) (Or.inl ⟨by kernel_rfl, ?_⟩) (by assumption) ?_
  rotate_left
  · (intro w hSw; (try dsimp only at hSw); go_simp; (try with_reducible rfl))
  try simp only [Act.put, List.getElem_toArray, List.getElem_cons_succ, List.getElem_cons_zero, List.setIfInBounds_toArray, List.set_cons_zero, List.set_cons_succ]
  refine wpAnyH_take (i := 6) (v := ?_) rfl (by kernel_rfl) (by kernel_rfl) (by kernel_rfl) (fun _ _ _ h => h) (Or.inl ⟨by kernel_rfl, ?_⟩) (by assumption) ?_
  rotate_left
  · (intro w hSw; (try dsimp only at hSw); go_simp; (try with_reducible rfl))
  try simp only [Act.put, List.getElem_toArray, List.getElem_cons_succ, List.getElem_cons_zero, List.setIfInBounds_toArray, List.set_cons_zero, List.set_cons_succ]
  refine wpAnyH_take (i := 7) (v := ?_) rfl (by kernel_rfl) (by kernel_rfl) (by kernel_rfl) (fun _ _ _ h => h) (Or.inl ⟨by kernel_rfl, ?_⟩) (by assumption) ?_
  rotate_left
  · (intro w hSw; (try dsimp only at hSw); go_simp; (try with_reducible rfl))
  try simp only [Act.put, List.getElem_toArray, List.getElem_cons_succ, List.getElem_cons_zero, List.setIfInBounds_toArray, List.set_cons_zero, List.set_cons_succ]
  refine wpAnyH_take (i := 8) (v := ?_) rfl (by kernel_rfl) (by kernel_rfl) (by kernel_rfl) (fun _ _ _ h => h) (Or.inl ⟨by kernel_rfl, ?_⟩) (by assumption) ?_
  rotate_left
  · (intro w hSw; (try dsimp only at hSw); go_simp; (try with_reducible rfl))
  try simp only [Act.put, List.getElem_toArray, List.getElem_cons_succ, List.getElem_cons_zero, List.setIfInBounds_toArray, List.set_cons_zero, List.set_cons_succ]
  refine wpAnyH_take (i := 9) (v := ?_) rfl (by kernel_rfl) (by kernel_rfl) (by kernel_rfl) (fun _ _ _ h => h) (Or.inl ⟨by kernel_rfl, ?_⟩) (by assumption) ?_
  rotate_left
  · (intro w hSw; (try dsimp only at hSw); go_simp; (try with_reducible rfl))
  try simp only [Act.put, List.getElem_toArray, List.getElem_cons_succ, List.getElem_cons_zero, List.setIfInBounds_toArray, List.set_cons_zero, List.set_cons_succ]
  refine wpAnyH_take (i := 10) (v := ?_) rfl (by kernel_rfl) (by kernel_rfl) (by kernel_rfl) (fun _ _ _ h => h) (Or.inl ⟨by kernel_rfl, ?_⟩) (by assumption) ?_
  rotate_left
  · (intro w hSw; (try dsimp only at hSw); go_simp; (try with_reducible rfl))
  try simp only [Act.put, List.getElem_toArray, List.getElem_cons_succ, List.getElem_cons_zero, List.setIfInBounds_toArray, List.set_cons_zero, List.set_cons_succ]
  refine wpAnyH_take (i := 11) (v := ?_) rfl (by kernel_rfl) (by kernel_rfl) (by kernel_rfl) (fun _ _ _ h => h) (Or.inl ⟨by kernel_rfl, ?_⟩) (by assumption) ?_
  rotate_left
  · (intro w hSw; (try dsimp only at hSw); go_simp; (try with_reducible rfl))
  try simp only [Act.put, List.getElem_toArray, List.getElem_cons_succ, List.getElem_cons_zero, List.setIfInBounds_toArray, List.set_cons_zero, List.set_cons_succ]
  refine wpAnyH_take (i := 12) (v := ?_) rfl (by kernel_rfl) (by kernel_rfl) (by kernel_rfl) (fun _ _ _ h => h) (Or.inl ⟨by kernel_rfl, ?_⟩) (by assumption) ?_
  rotate_left
  · (intro w hSw; (try dsimp only at hSw); go_simp; (try with_reducible rfl))
  try simp only [Act.put, List.getElem_toArray, List.getElem_cons_succ, List.getElem_cons_zero, List.setIfInBounds_toArray, List.set_cons_zero, List.set_cons_succ]
  refine wpAnyH_take (i := 13) (v := ?_) rfl (by kernel_rfl) (by kernel_rfl) (by kernel_rfl) (fun _ _ _ h => h) (Or.inl ⟨by kernel_rfl, ?_⟩) (by assumption) ?_
  rotate_left
  · (intro w hSw; (try dsimp only at hSw); go_simp; (try with_reducible rfl))
  try simp only [Act.put, List.getElem_toArray, List.getElem_cons_succ, List.getElem_cons_zero, List.setIfInBounds_toArray, List.set_cons_zero, List.set_cons_succ]
  refine wpAnyH_take (i := 14) (v := ?_) rfl (by kernel_rfl) (by kernel_rfl) (by kernel_rfl) (fun _ _ _ h => h) (Or.inl ⟨by kernel_rfl, ?_⟩) (by assumption) ?_
  rotate_left
  · (intro w hSw; (try dsimp only at hSw); go_simp; (try with_reducible rfl))
  try simp only [Act.put, List.getElem_toArray, List.getElem_cons_succ, List.getElem_cons_zero, List.setIfInBounds_toArray, List.set_cons_zero, List.set_cons_succ]
  refine wpAnyH_take (i := 15) (v := ?_) rfl (by kernel_rfl) (by kernel_rfl) (by kernel_rfl) (fun _ _ _ h => h) (Or.inl ⟨by kernel_rfl, ?_⟩) (by assumption) ?_
  rotate_left
  · (intro w hSw; (try dsimp only at hSw); go_simp; (try with_reducible rfl))
  try simp only [Act.put, List.getElem_toArray, List.getElem_cons_succ, List.getElem_cons_zero, List.setIfInBounds_toArray, List.set_cons_zero, List.set_cons_succ]
  refine wpAnyH_take (i := 16) (v := ?_) rfl (by kernel_rfl) (by kernel_rfl) (by kernel_rfl) (fun _ _ _ h => h) (Or.inl ⟨by kernel_rfl, ?_⟩) (by assumption) ?_
  rotate_left
  · (intro w hSw; (try dsimp only at hSw); go_simp; (try with_reducible rfl))
  try simp only [Act.put, List.getElem_toArray, List.getElem_cons_succ, List.getElem_cons_zero, List.setIfInBounds_toArray, List.set_cons_zero, List.set_cons_succ]
  refine wpAnyH_take (i := 17) (v := ?_) rfl (by kernel_rfl) (by kernel_rfl) (by kernel_rfl) (fun _ _ _ h => h) (Or.inl ⟨by kernel_rfl, ?_⟩) (by assumption) ?_
  rotate_left
  · (intro w hSw; (try dsimp only at hSw); go_simp; (try with_reducible rfl))
  try simp only [Act.put, List.getElem_toArray, List.getElem_cons_succ, List.getElem_cons_zero, List.setIfInBounds_toArray, List.set_cons_zero, List.set_cons_succ]
  refine wpAnyH_take (i := 18) (v := ?_) rfl (by kernel_rfl) (by kernel_rfl) (by kernel_rfl) (fun _ _ _ h => h) (Or.inl ⟨by kernel_rfl, ?_⟩) (by assumption) ?_
  rotate_left
  · (intro w hSw; (try dsimp only at hSw); go_simp; (try with_reducible rfl))
  try simp only [Act.put, List.getElem_toArray, List.getElem_cons_succ, List.getElem_cons_zero, List.setIfInBounds_toArray, List.set_cons_zero, List.set_cons_succ]
  refine wpAnyH_take (i := 19) (v := ?_) rfl (by kernel_rfl) (by kernel_rfl) (by kernel_rfl) (fun _ _ _ h => h) (Or.inl ⟨by kernel_rfl, ?_⟩) (by assumption) ?_
  rotate_left
  · (intro w hSw; (try dsimp only at hSw); go_simp; (try with_reducible rfl))
  try simp only [Act.put, List.getElem_toArray, List.getElem_cons_succ, List.getElem_cons_zero, List.setIfInBounds_toArray, List.set_cons_zero, List.set_cons_succ]
  refine wpAnyH_take (i := 20) (v := ?_) rfl (by kernel_rfl) (by kernel_rfl) (by kernel_rfl) (fun _ _ _ h => h) (Or.inl ⟨by kernel_rfl, ?_⟩) (by assumption) ?_
  rotate_left
  · (intro w hSw; (try dsimp only at hSw); go_simp; (try with_reducible rfl))
  try simp only [Act.put, List.getElem_toArray, List.getElem_cons_succ, List.getElem_cons_zero, List.setIfInBounds_toArray, List.set_cons_zero, List.set_cons_succ]
  refine wpAnyH_take (i := 21) (v := ?_) rfl (by kernel_rfl) (by kernel_rfl) (by kernel_rfl) (fun _ _ _ h => h) (Or.inl ⟨by kernel_rfl, ?_⟩) (by assumption) ?_
  rotate_left
  · (intro w hSw; (try dsimp only at hSw); go_simp; (try with_reducible rfl))
  try simp only [Act.put, List.getElem_toArray, List.getElem_cons_succ, List.getElem_cons_zero, List.setIfInBounds_toArray, List.set_cons_zero, List.set_cons_succ]
  refine wpAnyH_ready (rs := [22]) (by kernel_rfl) (by simp) ?_
  refine AllReadyH.cons rfl (fun K hK => ?_) AllReadyH.nil
  go_simp
  (go_at_call 78; refine (wlinefrom_any N _).mono ?_; rintro e w5 ⟨rfl, hp, hb⟩; have HB5 := Lib.hid (bdr hb); have HP5 := Lib.hid hp; clear hb hp)
  go_wp2_with fail
  refine hK.out _ _ (HST.out _ HB5.out) (fun hHeld => ?_)
  clear hK K
  try simp only [Act.put, List.getElem_toArray, List.getElem_cons_succ, List.getElem_cons_zero, List.setIfInBounds_toArray, List.set_cons_zero, List.set_cons_succ]
  refine wpAnyH_ready (rs := [23]) (by kernel_rfl) (by simp) ?_
  refine AllReadyH.cons rfl (fun K hK => ?_) AllReadyH.nil
  go_simp
  (go_at_call 77; refine (square_any 122 #[.pointer (some ⟨_, 0, none⟩)] (lineOk n) A c nx (n.offs.length : Int) w5 (HT1.out.below HB5.out) hx (fun o x => wline_any _ N n o x w5 (HN1.out.below HB5.out) HP5.out) (fun _ _ => rfl)).mono ?_; rintro e w6 ⟨rfl, rfl⟩)
  go_wp2_with fail
  refine hK.out _ _ (HST.out _ HB5.out) (fun hHeld => ?_)
  clear hK K
  try simp only [Act.put, List.getElem_toArray, List.getElem_cons_succ, List.getElem_cons_zero, List.setIfInBounds_toArray, List.set_cons_zero, List.set_cons_succ]
  refine wpAnyH_take (i := 24) (v := ?_) rfl (by kernel_rfl) (by kernel_rfl) (by kernel_rfl) (fun _ _ _ h => h) (Or.inl ⟨by kernel_rfl, ?_⟩) (by assumption) ?_
  rotate_left
  · (intro w hSw; (try dsimp only at hSw); go_simp; (try with_reducible rfl))
  try simp only [Act.put, List.getElem_toArray, List.getElem_cons_succ, List.getElem_cons_zero, List.setIfInBounds_toArray, List.set_cons_zero, List.set_cons_succ]
  refine wpAnyH_take (i := 25) (v := ?_) rfl (by kernel_rfl) (by kernel_rfl) (by kernel_rfl) (fun _ _ _ h => h) (Or.inl ⟨by kernel_rfl, ?_⟩) (by assumption) ?_
  rotate_left
  · (intro w hSw; (try dsimp only at hSw); go_simp; (try with_reducible rfl))
  try simp only [Act.put, List.getElem_toArray, List.getElem_cons_succ, List.getElem_cons_zero, List.setIfInBounds_toArray, List.set_cons_zero, List.set_cons_succ]
  refine wpAnyH_done (by kernel_rfl) ?_ _
  refine NoPanic.normal ?_
  clear hHeld
  have HN5 := Lib.hid (HN1.out.below HB5.out)
  have HD5 := Lib.hid (HD1.out.below HB5.out)
  have c3 := (HQ1.out.below HB5.out).c3
  have n3 : w5.cell? ⟨N, 3, none⟩ = some (.slice n.offA n.offs.length n.offC) := HN5.out.box 3 _ rfl
  have HBF := Lib.hid (bt HB1.out HB5.out)
  have HFB : Hid (formedB n fr till nx ds = (squareB (lineOk n) (n.offs.length : Int) nx && ds.all fun r => squareB (fun _ x => dayOk x) (n.offs.length : Int) r.rows)) := by
    show _ = _
    unfold formedB
    rw [HRB.out, HE.out]
    rfl
  clear e1 e2 hdl HST HP5 HQ1 HT1 HN1 HD1
  cases hsq : squareB (lineOk n) (n.offs.length : Int) nx with
  | false =>
    have HZ : Hid (formedB n fr till nx ds = false) := by show _ = _; rw [HFB.out, hsq]; rfl
    clear hsq
    go_wp2_with fail
    go_ret
    exact ⟨ret_bool HZ.out.symm, HBF.out⟩
  | true =>
    have HZ : Hid (formedB n fr till nx ds = ds.all fun r => squareB (fun _ x => dayOk x) (n.offs.length : Int) r.rows) := by show _ = _; rw [HFB.out, hsq]; rfl
    clear hsq HFB
    go_wp2_with fail
    go_loopw [7, 74] (fun _ i wr => ∃ k : Nat, k ≤ ds.length ∧ i = iV k ∧ wr = w5 ∧ formedB n fr till nx ds = (ds.drop k).all fun r => squareB (fun _ x => dayOk x) (n.offs.length : Int) r.rows) (fun _ i _ => ds.length + 1 - (intOf i).toNat)
    case atStart => exact ⟨0, by omega, rfl, rfl, by rw [List.drop_zero]; exact HZ.out⟩
    case round =>
    obtain ⟨k, hk, rfl, hw, hrr⟩ := hrel
    subst hw
    have HRR := Lib.hid hrr; clear hrr
    have k0 : (0 : Int) ≤ (k : Int) := by omega
    by_cases hlt : k < ds.length
    case neg =>
      have k1 : ¬ (k : Int) < (ds.length : Int) := by omega
      have HT9 : Hid (formedB n fr till nx ds = true) := by
        show _ = _
        rw [HRR.out, List.drop_eq_nil_of_le (by omega)]
        rfl
      go_wp2_with fail
      go_ret
      exact ⟨ret_bool HT9.out.symm, HBF.out⟩
    have HLT := Lib.hid hlt
    have k1 : (k : Int) < (ds.length : Int) := by omega
    obtain ⟨r, hr⟩ : ∃ r, ds[k]? = some r := ⟨_, List.getElem?_eq_getElem hlt⟩
    have HDR : Hid (formedB n fr till nx ds = (squareB (fun _ x => dayOk x) (n.offs.length : Int) r.rows && (ds.drop (k + 1)).all fun r => squareB (fun _ x => dayOk x) (n.offs.length : Int) r.rows)) := by
      show _ = _
      rw [HRR.out, List.drop_eq_getElem_cons hlt]
      rw [List.getElem?_eq_getElem hlt] at hr
      rw [Option.some.inj hr]
      rfl
    have HROW := Lib.hid (HD5.out.row r (List.mem_of_getElem? hr))
    obtain ⟨nb, no, hnA, -, hnc⟩ := HD5.out.rd.get (i := k) (by rw [List.length_map]; exact hlt)
    have c1 : wr.cell? ⟨nb, no + k, none⟩ = some (.slice r.A r.rows.length r.c) := hnc k _ (by rw [List.getElem?_map, hr]; rfl)
    have HNA := Lib.hid hnA
    clear hr hnc
    subst hnA
    go_wp2_with fail
    refine (square_any 79 #[] (fun _ x => dayOk x) r.A r.c r.rows (n.offs.length : Int) wr HROW.out.1 HROW.out.2 (fun o x => wpromised_any o x wr) (fun _ _ => rfl)).mono ?_
    rintro e w6 ⟨rfl, rfl⟩
    cases hsq : squareB (fun _ x => dayOk x) (n.offs.length : Int) r.rows with
    | false =>
      have HF9 : Hid (formedB n fr till nx ds = false) := by show _ = _; rw [HDR.out, hsq]; rfl
      clear hsq
      go_wp2_with fail
      go_ret
      exact ⟨ret_bool HF9.out.symm, HBF.out⟩
    | true =>
      have HF9 : Hid (formedB n fr till nx ds = (ds.drop (k + 1)).all fun r => squareB (fun _ x => dayOk x) (n.offs.length : Int) r.rows) := by show _ = _; rw [HDR.out, hsq]; rfl
      clear hsq
      go_wp2_with fail
      go_roundw
      case rel => ((repeat apply Exists.intro); exact ⟨⟨k + 1, by have := HLT.out; omega, by go_num, trivial, HF9.out⟩, rfl⟩)
      case measure => have := HLT.out; simp [intOf]; omega
end Go.Proofs.YtjpabeoflhkfkaaGreatDoor
