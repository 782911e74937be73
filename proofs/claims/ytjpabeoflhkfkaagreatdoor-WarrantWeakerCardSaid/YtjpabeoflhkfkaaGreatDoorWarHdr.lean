/-
  The walk over the reference's Header. (Printed by gen_hdr.py.)
-/
import Derived.Test.YtjpabeoflhkfkaaGreatDoorWarRef
import Derived.Test.YtjpabeoflhkfkaaGreatDoorWarOwn
namespace Go.Proofs.YtjpabeoflhkfkaaGreatDoor
open Go.RowKit
attribute [local go_sem] Oper.semAt_some

/-- A list of numbers that grows in a block of its own. -/
structure HdI (w W : World) (o : Value) (l : List Int) (b : Nat) : Prop where
  own : W.ownsRow w.heap.size 3 1 o l.length (l.map iV)
  bel : Below w.heap.size w W
  len : l.length ≤ b
theorem HdI.app {w wr w3 : World} {ua : Option Addr} {uc b g cap : Nat} {l : List Int} {y : Int} (h : HdI w wr (.slice ua l.length uc) l b) (own1 : w3.ownsRow w.heap.size 3 1 (.slice (some ⟨g, 0, none⟩) (l.length + 1) cap) (l.length + 1) (l.map iV ++ [iV y]))
    (hgrow : (wr.alloc (.cells #[iV y] 3)).grownBy w3 (Value.slice ua l.length uc).ownBlock) : HdI w w3 (.slice (some ⟨g, 0, none⟩) (l.length + 1) cap) (l ++ [y]) (b + 1) := by
  refine ⟨by simpa using own1, ?_, by have := h.len; simp; omega⟩
  have hs := h.bel.size
  exact (h.bel.trans ((ba wr _).mono hs)).grown hgrow (by simp; omega) (fun q e => by
    have e' : Value.ownBlock (.slice ua l.length uc) = some q := e
    exact own_ge h.own e')
theorem HdI.eq {w W : World} {o : Value} {l m : List Int} {b c : Nat} (h : HdI w W o l b) (e : l = m) (hc : b ≤ c) : HdI w W o m c := by
  subst e
  exact ⟨h.own, h.bel, Nat.le_trans h.len hc⟩
theorem tab_at {W : World} {A : Option Addr} {nx : List NsC} {o d : Nat} {r : NsC} {y : Int} (hT : Tab W A nx) (h1 : nx[o]? = some r) (h2 : r.ns[d]? = some y) :
    ∃ S so T tt, A = some ⟨S, so, none⟩ ∧ r.A = some ⟨T, tt, none⟩ ∧ W.cell? ⟨S, so + o, none⟩ = some (.slice r.A r.ns.length r.c) ∧ W.cell? ⟨T, tt + d, none⟩ = some (iV y) := by
  obtain ⟨S, so, e1, -, c1⟩ := hT.rd.get (i := o) (by simpa using (List.getElem?_eq_some_iff.1 h1).1)
  obtain ⟨T, tt, e2, -, c2⟩ := (hT.row r (List.mem_of_getElem? h1)).1.get (i := d) (by simpa using (List.getElem?_eq_some_iff.1 h2).1)
  exact ⟨S, so, T, tt, e1, e2, c1 o (slI r) (by rw [List.getElem?_map, h1]; rfl), c2 d (iV y) (by rw [List.getElem?_map, h2]; rfl)⟩
theorem row_at {W : World} {A : Option Addr} {nx : List NsC} {o : Nat} {r : NsC} (hT : Tab W A nx) (h1 : nx[o]? = some r) : ∃ S so, A = some ⟨S, so, none⟩ ∧ W.cell? ⟨S, so + o, none⟩ = some (.slice r.A r.ns.length r.c) := by
  obtain ⟨S, so, e1, -, c1⟩ := hT.rd.get (i := o) (by simpa using (List.getElem?_eq_some_iff.1 h1).1)
  exact ⟨S, so, e1, c1 o (slI r) (by rw [List.getElem?_map, h1]; rfl)⟩
theorem day_at {W : World} {D : Option Addr} {ds : List DaC} {k : Nat} {x : DaC} (hT : DTab0 W D ds) (h1 : ds[k]? = some x) : ∃ S so, D = some ⟨S, so, none⟩ ∧ W.cell? ⟨S, so + k, none⟩ = some (.slice x.A x.rows.length x.c) := by
  obtain ⟨S, so, e1, -, c1⟩ := hT.rd.get (i := k) (by simpa using (List.getElem?_eq_some_iff.1 h1).1)
  exact ⟨S, so, e1, c1 k (slD x) (by rw [List.getElem?_map, h1]; rfl)⟩
theorem nextR1_step {nx : List NsC} {o : Nat} {r : NsC} (h : nx[o]? = some r) : nextR1 (nx.take (o + 1)) = nextR1 (nx.take o) ++ r.ns.map (· + 1) := by
  rw [take_one h, nextR1_app, nextR1_one]
theorem dayR_step {ds : List DaC} {k : Nat} {x : DaC} (h : ds[k]? = some x) : (ds.take (k + 1)).flatMap (fun x => nextR1 x.rows) = (ds.take k).flatMap (fun x => nextR1 x.rows) ++ nextR1 x.rows := by
  rw [take_one h]
  simp
def HdP (l : List Int) (w : World) (e : Ending) (w' : World) : Prop := ∃ v, e = .returned v ∧ w'.ownsRow w.heap.size 3 1 v l.length (l.map iV) ∧ Below w.heap.size w w'
set_option maxHeartbeats 8000000 in
set_option maxRecDepth 100000 in
theorem header_any (n : Net) (fr till : Int) (A : Option Addr) (c : Nat) (nx : List NsC) (D : Option Addr) (dc : Nat) (ds : List DaC) (w : World) (hT : Tab w A nx) (hD : DTab0 w D ds) (hG : Good n) (hF : Fine n fr till nx ds) :
    Calls Tryz.prog 13 #[planV fr till A nx.length c D ds.length dc] w (HdP (headR n fr till nx ds) w) := by
  have hb0 := ba w (planO fr till A nx.length c D ds.length dc)
  have hx0 := heap_alloc_new w (planO fr till A nx.length c D ds.length dc)
  have HT := Lib.hid (hT.below hb0)
  have HD := Lib.hid (hD.below hb0)
  have HB0 := Lib.hid hb0
  have HG := Lib.hid hG
  have HF := Lib.hid hF
  obtain ⟨q1, q2, q3, q4⟩ := hF.rng
  have hn12 : nx.length ≤ 12 := by have := hF.next.1; have := hG.few.2.1; omega
  have hd4 : ds.length ≤ 4 := by have := hF.dsL; have := hG.few.2.2.2; omega
  obtain ⟨i0, hi0, hz0, hz1, hz2⟩ := info_parts intWInf
  have p0 : (w.alloc (planO fr till A nx.length c D ds.length dc)).cell? ⟨w.heap.size, 0, none⟩ = some (iV fr) := cell_of_row _ _ 0 _ _ _ hx0
  have p1 : (w.alloc (planO fr till A nx.length c D ds.length dc)).cell? ⟨w.heap.size, 1, none⟩ = some (iV till) := cell_of_row _ _ 1 _ _ _ hx0
  have p2 : (w.alloc (planO fr till A nx.length c D ds.length dc)).cell? ⟨w.heap.size, 2, none⟩ = some (.slice A nx.length c) := cell_of_row _ _ 2 _ _ _ hx0
  have p3 : (w.alloc (planO fr till A nx.length c D ds.length dc)).cell? ⟨w.heap.size, 3, none⟩ = some (.slice D ds.length dc) := cell_of_row _ _ 3 _ _ _ hx0
  have HPL := Lib.hid hx0
  clear hT hD hG hF hb0 hx0
  go_enter Tryz.func13, Tryz.ntmps13
  go_upto_region 1 with fail
  change Code.wp _ _ _ _ (w.alloc (planO fr till A nx.length c D ds.length dc))
  generalize hW0 : (w.alloc (planO fr till A nx.length c D ds.length dc)) = W0 at *
  clear hW0
  generalize hX : w.heap.size = X at *
  have HX := Lib.hid hX; clear hX
  have HI0 : Hid (HdI W0 (W0.alloc (.cells #[iV fr, iV till, iV nx.length, iV ds.length] 3)) (.slice (some ⟨W0.heap.size, 0, none⟩) 4 4) [fr, till, (nx.length : Int), (ds.length : Int)] 4) :=
    ⟨⟨rfl, .inr ⟨W0.heap.size, 4, _, rfl, Nat.le_refl _, heap_alloc_new _ _, Nat.le_refl _, by decide, rfl, rfl⟩⟩, ba W0 _, Nat.le_refl _⟩
  go_upto_region 2 with fail
  clear p0 p1 p2 p3
  change Code.wp _ _ _ _ (W0.alloc (.cells #[iV fr, iV till, iV nx.length, iV ds.length] 3))
  generalize hH4 : [fr, till, (nx.length : Int), (ds.length : Int)] = h4 at *
  have HH4 := Lib.hid hH4; clear hH4
  generalize (W0.alloc (.cells #[iV fr, iV till, iV nx.length, iV ds.length] 3)) = W1 at *
  go_wp2_with fail
  go_loopw [3, 4, 5] (fun out i _ wr => ∃ o : Nat, o ≤ nx.length ∧ i = iV o ∧ HdI W0 wr out (h4 ++ nextR1 (nx.take o)) (4 + 12 * o)) (fun _ i _ _ => nx.length + 1 - (intOf i).toNat)
  case atStart => exact ⟨0, by omega, rfl, HI0.out.eq (by simp [nextR1]) (by omega)⟩
  case round =>
  obtain ⟨o, ho, rfl, hi⟩ := hrel
  have HI := Lib.hid hi
  clear hi HI0
  have p2 : wr.cell? ⟨X, 2, none⟩ = some (.slice A nx.length c) := cell_of_row _ _ 2 _ _ _ ((HI.out.bel.block _ (block_lt HPL.out)).trans HPL.out)
  have p3 : wr.cell? ⟨X, 3, none⟩ = some (.slice D ds.length dc) := cell_of_row _ _ 3 _ _ _ ((HI.out.bel.block _ (block_lt HPL.out)).trans HPL.out)
  have o0 : (0 : Int) ≤ (o : Int) := by omega
  by_cases hot : o < nx.length
  case pos =>
    have HOT := Lib.hid hot
    have o1 : (o : Int) < (nx.length : Int) := by omega
    obtain ⟨r, hr⟩ : ∃ r, nx[o]? = some r := ⟨_, List.getElem?_eq_getElem hot⟩
    have HRE := Lib.hid hr
    obtain ⟨hrl, hrv⟩ := HF.out.nextL r (List.mem_of_getElem? hr)
    have hr12 : r.ns.length ≤ 12 := by have := HG.out.few.2.1; omega
    have HRV := Lib.hid hrv
    have HRL := Lib.hid hrl
    clear hr hrl hrv p3
    go_upto_region 6 with fail
    clear p2
    go_wp2_with fail
    go_loopw [3, 5] (fun out i wr => ∃ d : Nat, d ≤ r.ns.length ∧ i = iV d ∧ HdI W0 wr out ((h4 ++ nextR1 (nx.take o)) ++ (r.ns.take d).map (· + 1)) (4 + 12 * o + d)) (fun _ i _ => r.ns.length + 1 - (intOf i).toNat)
    case atStart => exact ⟨0, by omega, rfl, HI.out.eq (by simp) (by omega)⟩
    case round =>
    obtain ⟨d, hd, rfl, hi⟩ := hrel
    clear HI
    have HI := Lib.hid hi
    clear hi
    have d0 : (0 : Int) ≤ (d : Int) := by omega
    have p2 : wr.cell? ⟨X, 2, none⟩ = some (.slice A nx.length c) := cell_of_row _ _ 2 _ _ _ ((HI.out.bel.block _ (block_lt HPL.out)).trans HPL.out)
    by_cases hdt : d < r.ns.length
    case neg =>
      have d1 : ¬ (d : Int) < (r.ns.length : Int) := by omega
      obtain ⟨S, so, hA, c1⟩ := row_at (HT.out.below HI.out.bel) HRE.out
      have HAE := Lib.hid hA
      rw [hA] at p2
      clear hA
      go_wp2_with fail
      go_roundw
      case rel => exact ⟨o + 1, by have := HOT.out; omega, by go_num, HI.out.eq (by rw [nextR1_step HRE.out, List.take_of_length_le (l := r.ns) (i := d) (by omega), List.append_assoc]) (by omega)⟩
      case measure => have := HOT.out; simp [intOf]; omega
    have HDT := Lib.hid hdt
    have d1 : (d : Int) < (r.ns.length : Int) := by omega
    obtain ⟨y, hy⟩ : ∃ y, r.ns[d]? = some y := ⟨_, List.getElem?_eq_getElem hdt⟩
    have HYE := Lib.hid hy
    obtain ⟨S, so, T, tt, hA, hB, c1, c2⟩ := tab_at (HT.out.below HI.out.bel) HRE.out hy
    have hyv := HRV.out y (List.mem_of_getElem? hy)
    have hl3 := HG.out.few.2.2.1
    have HAE := Lib.hid hA
    have HBE := Lib.hid hB
    rw [hA] at p2
    rw [hB] at c1
    clear hA hB hy
    generalize hL : (h4 ++ nextR1 (nx.take o)) ++ (r.ns.take d).map (· + 1) = l at *
    have HL := Lib.hid hL; clear hL
    obtain ⟨ua, uc, rfl⟩ := own_slice HI.out.own
    have HN := Lib.hid (heap_alloc_new wr (.cells #[iV (y + 1)] 3))
    have HBN := Lib.hid (ba wr (.cells #[iV (y + 1)] 3))
    have HSL := Lib.hid HI.out.bel.size
    have hlen := HI.out.len
    go_wp2_with (at_builtin; refine wpList_append_lies _ rfl _ _ _ rfl W0.heap.size 3 i0 _ 1 8 Tryz.underlying25 hi0 hz0 hz1 hz2 rfl (by omega) _ _ _ rfl (own_below HI.out.own HBN.out) ⟨wr.heap.size, 0, none⟩ 1 1 [iV (y + 1)] rfl rfl (fun j u hu => by rw [add_at, Nat.zero_add]; exact (cell_of_row _ _ j _ _ _ HN.out).trans (by simpa using hu)) (fun u hu => by simp at hu; subst hu; rfl) (by omega) (by unfold maxLen; omega) (by omega) (by have := HSL.out; simp; omega) (wr.heap.size + 1) (by simp) ?_; intro g cap w3 own1 hgrow hat hlt9)
    have HI3 := Lib.hid (HI.out.app own1 hgrow)
    clear own1 hgrow hat hlt9
    go_wp2_with fail
    go_roundw
    case rel => exact ⟨d + 1, by have := HDT.out; omega, by go_num, HI3.out.eq (show _ = (h4 ++ nextR1 (nx.take o)) ++ (r.ns.take (d + 1)).map (· + 1) by rw [take_one HYE.out, ← HL.out]; simp) (by omega)⟩
    case measure => have := HDT.out; simp [intOf]; omega
  have o1 : ¬ (o : Int) < (nx.length : Int) := by omega
  have HI1 := Lib.hid (HI.out.eq (show _ = h4 ++ nextR1 nx by rw [List.take_of_length_le (by omega)]) (show _ ≤ 148 by omega))
  clear HI
  have HD1 := Lib.hid (HD.out.below HI1.out.bel)
  go_upto_region 10 with fail
  clear p2 p3
  go_wp2_with fail
  go_loopw [3, 6, 7, 8] (fun out i _ _ wr => ∃ k : Nat, k ≤ ds.length ∧ i = iV k ∧ HdI W0 wr out ((h4 ++ nextR1 nx) ++ (ds.take k).flatMap fun x => nextR1 x.rows) (148 + 144 * k)) (fun _ i _ _ _ => ds.length + 1 - (intOf i).toNat)
  case atStart => exact ⟨0, by omega, rfl, HI1.out.eq (by simp) (by omega)⟩
  case round =>
  obtain ⟨k, hk, rfl, hi⟩ := hrel
  have HI := Lib.hid hi
  clear hi HI1 HD1
  have p3 : wr.cell? ⟨X, 3, none⟩ = some (.slice D ds.length dc) := cell_of_row _ _ 3 _ _ _ ((HI.out.bel.block _ (block_lt HPL.out)).trans HPL.out)
  have k0 : (0 : Int) ≤ (k : Int) := by omega
  by_cases hkt : k < ds.length
  case neg =>
    have k1 : ¬ (k : Int) < (ds.length : Int) := by omega
    have HE := Lib.hid (HI.out.eq (show _ = headR n fr till nx ds by
      rw [List.take_of_length_le (by omega), ← HH4.out]
      unfold headR
      rw [HF.out.next.1, HF.out.dsL]) (Nat.le_refl _))
    go_wp2_with fail
    go_ret
    refine ⟨_, rfl, own_base HE.out.own HB0.out.size, by rw [HX.out]; exact HB0.out.trans (HE.out.bel.mono (by have h := HB0.out.size; have e := HX.out; omega))⟩
  have HKT := Lib.hid hkt
  have k1 : (k : Int) < (ds.length : Int) := by omega
  obtain ⟨x, hx⟩ : ∃ x, ds[k]? = some x := ⟨_, List.getElem?_eq_getElem hkt⟩
  have HXE := Lib.hid hx
  obtain ⟨⟨hxl, hxr⟩, hxv⟩ := HF.out.days x (List.mem_of_getElem? hx)
  have hx12 : x.rows.length ≤ 12 := by have := HG.out.few.2.1; omega
  have HXR := Lib.hid hxr
  have HXV := Lib.hid hxv
  have HTX := Lib.hid (HD.out.row x (List.mem_of_getElem? hx)).1
  clear hx hxl hxr hxv
  go_upto_region 13 with fail
  clear p3
  go_wp2_with fail
  go_loopw [3, 7, 8] (fun out i _ wr => ∃ o : Nat, o ≤ x.rows.length ∧ i = iV o ∧ HdI W0 wr out (((h4 ++ nextR1 nx) ++ (ds.take k).flatMap fun x => nextR1 x.rows) ++ nextR1 (x.rows.take o)) (148 + 144 * k + 12 * o)) (fun _ i _ _ => x.rows.length + 1 - (intOf i).toNat)
  case atStart => exact ⟨0, by omega, rfl, HI.out.eq (by simp [nextR1]) (by omega)⟩
  case round =>
  obtain ⟨o, ho, rfl, hi⟩ := hrel
  clear HI
  have HI := Lib.hid hi
  clear hi
  have p3 : wr.cell? ⟨X, 3, none⟩ = some (.slice D ds.length dc) := cell_of_row _ _ 3 _ _ _ ((HI.out.bel.block _ (block_lt HPL.out)).trans HPL.out)
  obtain ⟨U, uo, hU, c0⟩ := day_at (HD.out.below HI.out.bel) HXE.out
  have HUE := Lib.hid hU
  rw [hU] at p3
  clear hU
  have o0' : (0 : Int) ≤ (o : Int) := by omega
  by_cases hot : o < x.rows.length
  case neg =>
    have o1' : ¬ (o : Int) < (x.rows.length : Int) := by omega
    go_wp2_with fail
    go_roundw
    case rel => exact ⟨k + 1, by have := HKT.out; omega, by go_num, HI.out.eq (by rw [dayR_step HXE.out, List.take_of_length_le (l := x.rows) (i := o) (by omega), List.append_assoc]) (by omega)⟩
    case measure => have := HKT.out; simp [intOf]; omega
  have HOT := Lib.hid hot
  have o1' : (o : Int) < (x.rows.length : Int) := by omega
  obtain ⟨r, hr⟩ : ∃ r, x.rows[o]? = some r := ⟨_, List.getElem?_eq_getElem hot⟩
  have HRE := Lib.hid hr
  have hr12 : r.ns.length ≤ 12 := by have := HXR.out r (List.mem_of_getElem? hr); have := HG.out.few.2.1; omega
  have HRV := Lib.hid (HXV.out r (List.mem_of_getElem? hr))
  clear hr
  go_upto_region 16 with fail
  clear p3 c0
  go_wp2_with fail
  go_loopw [3, 8] (fun out i wr => ∃ d : Nat, d ≤ r.ns.length ∧ i = iV d ∧ HdI W0 wr out ((((h4 ++ nextR1 nx) ++ (ds.take k).flatMap fun x => nextR1 x.rows) ++ nextR1 (x.rows.take o)) ++ (r.ns.take d).map (· + 1)) (148 + 144 * k + 12 * o + d)) (fun _ i _ => r.ns.length + 1 - (intOf i).toNat)
  case atStart => exact ⟨0, by omega, rfl, HI.out.eq (by simp) (by omega)⟩
  case round =>
  obtain ⟨d, hd, rfl, hi⟩ := hrel
  clear HI
  have HI := Lib.hid hi
  clear hi
  have d0 : (0 : Int) ≤ (d : Int) := by omega
  have p3 : wr.cell? ⟨X, 3, none⟩ = some (.slice D ds.length dc) := cell_of_row _ _ 3 _ _ _ ((HI.out.bel.block _ (block_lt HPL.out)).trans HPL.out)
  obtain ⟨U, uo, hU, c0⟩ := day_at (HD.out.below HI.out.bel) HXE.out
  have HUE := Lib.hid hU
  rw [hU] at p3
  clear hU
  by_cases hdt : d < r.ns.length
  case neg =>
    have d1 : ¬ (d : Int) < (r.ns.length : Int) := by omega
    obtain ⟨S, so, hA, c1⟩ := row_at (HTX.out.below HI.out.bel) HRE.out
    have HAE := Lib.hid hA
    rw [hA] at c0
    clear hA
    go_wp2_with fail
    go_roundw
    case rel => exact ⟨o + 1, by have := HOT.out; omega, by go_num, HI.out.eq (by rw [nextR1_step HRE.out, List.take_of_length_le (l := r.ns) (i := d) (by omega), List.append_assoc]) (by omega)⟩
    case measure => have := HOT.out; simp [intOf]; omega
  have HDT := Lib.hid hdt
  have d1 : (d : Int) < (r.ns.length : Int) := by omega
  obtain ⟨y, hy⟩ : ∃ y, r.ns[d]? = some y := ⟨_, List.getElem?_eq_getElem hdt⟩
  have HYE := Lib.hid hy
  obtain ⟨S, so, T, tt, hA, hB, c1, c2⟩ := tab_at (HTX.out.below HI.out.bel) HRE.out hy
  have hyv := HRV.out y (List.mem_of_getElem? hy)
  have HAE := Lib.hid hA
  have HBE := Lib.hid hB
  rw [hA] at c0
  rw [hB] at c1
  clear hA hB hy
  generalize hL : (((h4 ++ nextR1 nx) ++ (ds.take k).flatMap fun x => nextR1 x.rows) ++ nextR1 (x.rows.take o)) ++ (r.ns.take d).map (· + 1) = l at *
  have HL := Lib.hid hL; clear hL
  obtain ⟨ua, uc, rfl⟩ := own_slice HI.out.own
  have HN := Lib.hid (heap_alloc_new wr (.cells #[iV (y + 1)] 3))
  have HBN := Lib.hid (ba wr (.cells #[iV (y + 1)] 3))
  have HSL := Lib.hid HI.out.bel.size
  have hlen := HI.out.len
  go_wp2_with (at_builtin; refine wpList_append_lies _ rfl _ _ _ rfl W0.heap.size 3 i0 _ 1 8 Tryz.underlying25 hi0 hz0 hz1 hz2 rfl (by omega) _ _ _ rfl (own_below HI.out.own HBN.out) ⟨wr.heap.size, 0, none⟩ 1 1 [iV (y + 1)] rfl rfl (fun j u hu => by rw [add_at, Nat.zero_add]; exact (cell_of_row _ _ j _ _ _ HN.out).trans (by simpa using hu)) (fun u hu => by simp at hu; subst hu; rfl) (by omega) (by unfold maxLen; omega) (by omega) (by have := HSL.out; simp; omega) (wr.heap.size + 1) (by simp) ?_; intro g cap w3 own1 hgrow hat hlt9)
  have HI3 := Lib.hid (HI.out.app own1 hgrow)
  clear own1 hgrow hat hlt9
  go_wp2_with fail
  go_roundw
  case rel => exact ⟨d + 1, by have := HDT.out; omega, by go_num, HI3.out.eq (show _ = (((h4 ++ nextR1 nx) ++ (ds.take k).flatMap fun x => nextR1 x.rows) ++ nextR1 (x.rows.take o)) ++ (r.ns.take (d + 1)).map (· + 1) by rw [take_one HYE.out, ← HL.out]; simp) (by omega)⟩
  case measure => have := HDT.out; simp [intOf]; omega
end Go.Proofs.YtjpabeoflhkfkaaGreatDoor
