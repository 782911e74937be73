/-
  The opening of a plan.
-/
import Derived.Test.YtjpabeoflhkfkaaGreatDoorWarCard
import Derived.Test.YtjpabeoflhkfkaaGreatDoorWarRef
namespace Go.Proofs.YtjpabeoflhkfkaaGreatDoor
open Go.ChangeShapes Go.WideShapes Go.ChangeAt Go.RowKit Go.WideMaps Go.WideElems
open Go.ChangeMaps (open_string shut_string)

theorem cell_tab : Tryz.prog.cellsOf 37 = 1 := by kernel_rfl
theorem cell_dtab : Tryz.prog.cellsOf 38 = 1 := by kernel_rfl
theorem cell_plan : Tryz.prog.cellsOf 40 = 4 := by kernel_rfl
section
variable {H : Type} {enc : TypeId × Value → H} {W : World}
theorem tab_of {fuel : Nat} {cs : List Value} {x : DataW H × List MemPlace} (h : DataW.trod enc Tryz.prog W 0 (fun _ => true) true fuel 37 cs = some x) :
    ∃ A c nx, cs = [.slice A (List.length nx) c] ∧ Tab W A nx ∧ nx.length ≤ maxLen := by
  obtain ⟨A, c, ws, h1, h2, h3, h4, h5⟩ := rowsk_of (f := fun x : NsC => [slI x]) (Q := fun x => Rd W x.A (x.ns.map iV) ∧ (∀ n ∈ x.ns, I64 n) ∧ x.ns.length ≤ maxLen) 1 (by decide) Tryz.underlying37 cell_ints (fun _ => rfl)
    (fun _ _ _ h => by obtain ⟨A, c, ns, g1, g2, g3, g4⟩ := ints_of h; exact ⟨⟨ns, A, c⟩, g1, g2, g4, g3⟩) h
  rw [flat_one] at h2
  exact ⟨A, c, ws, h1, ⟨h2, h5⟩, Nat.le_trans h3 h4⟩
theorem dtab_of {fuel : Nat} {cs : List Value} {x : DataW H × List MemPlace} (h : DataW.trod enc Tryz.prog W 0 (fun _ => true) true fuel 38 cs = some x) :
    ∃ A c ds, cs = [.slice A (List.length ds) c] ∧ DTab0 W A ds ∧ ds.length ≤ maxLen := by
  obtain ⟨A, c, ws, h1, h2, h3, h4, h5⟩ := rowsk_of (f := fun x : DaC => [slD x]) (Q := fun x => Tab W x.A x.rows ∧ x.rows.length ≤ maxLen) 1 (by decide) Tryz.underlying38 cell_tab (fun _ => rfl)
    (fun _ _ _ h => by obtain ⟨A, c, nx, g1, g2, g3⟩ := tab_of h; exact ⟨⟨nx, A, c⟩, g1, g2, g3⟩) h
  rw [flat_one] at h2
  exact ⟨A, c, ws, h1, ⟨h2, h5⟩, Nat.le_trans h3 h4⟩
set_option maxRecDepth 100000 in
theorem open_plan {base : Nat} {v : Value} {d : DataW H} {ps : List MemPlace} (hval : Value.okWide Tryz.prog W .any base 40 v) (h : DataW.Trod enc Tryz.prog W 0 (fun _ => true) true 40 v d ps) :
    ∃ fr till A c nx D dc ds, v = planV fr till A (List.length nx) c D (List.length ds) dc ∧ Tab W A nx ∧ nx.length ≤ maxLen ∧ DTab0 W D ds ∧ ds.length ≤ maxLen := by
  have hv : ∃ cs, v = .agg cs := by
    unfold Value.okWide at hval
    rw [Tryz.underlying40] at hval
    obtain ⟨cs, hcs, _⟩ := hval
    exact ⟨cs, hcs⟩
  obtain ⟨cs, rfl⟩ := hv
  obtain ⟨fuel, h⟩ := h
  obtain ⟨xs, m, _, _, hlen, hxl, hf⟩ := DataW.trod_struct Tryz.underlying40 h
  rw [cell_plan] at hlen
  have hxl' : xs.length = 4 := hxl
  obtain ⟨y0, h0⟩ := fld (o := 0) cell_int (by rw [hxl']; decide) (hf 0 _ rfl)
  obtain ⟨x0, e0, f0⟩ := int_of h0
  obtain ⟨y1, h1⟩ := fld (o := 1) cell_int (by rw [hxl']; decide) (hf 1 _ rfl)
  obtain ⟨x1, e1, f1⟩ := int_of h1
  obtain ⟨y2, h2⟩ := fld (o := 2) cell_tab (by rw [hxl']; decide) (hf 2 _ rfl)
  obtain ⟨A2, c2, x2, e2, f2, g2⟩ := tab_of h2
  obtain ⟨y3, h3⟩ := fld (o := 3) cell_dtab (by rw [hxl']; decide) (hf 3 _ rfl)
  obtain ⟨A3, c3, x3, e3, f3, g3⟩ := dtab_of h3
  have hcs : cs.toList = [iV x0, iV x1, .slice A2 x2.length c2, .slice A3 x3.length c3] := by
    have hlen' : cs.toList.length = 4 := hlen
    have e0' : (cs.toList.drop 0).take 1 = [iV x0] := e0
    have e1' : (cs.toList.drop 1).take 1 = [iV x1] := e1
    have e2' : (cs.toList.drop 2).take 1 = [.slice A2 x2.length c2] := e2
    have e3' : (cs.toList.drop 3).take 1 = [.slice A3 x3.length c3] := e3
    have hend : cs.toList.drop 4 = [] := List.drop_eq_nil_of_le (by omega)
    have h00 : cs.toList = cs.toList.drop 0 := rfl
    rw [h00, cut cs.toList 0 1, e0', show 0 + 1 = 1 from rfl, cut cs.toList 1 1, e1', show 1 + 1 = 2 from rfl, cut cs.toList 2 1, e2', show 2 + 1 = 3 from rfl, cut cs.toList 3 1, e3', show 3 + 1 = 4 from rfl, hend]
    rfl
  have h4 : cs = #[iV x0, iV x1, .slice A2 x2.length c2, .slice A3 x3.length c3] := by rw [← Array.toArray_toList (xs := cs), hcs]
  exact ⟨x0, x1, A2, c2, x2, A3, c3, x3, by rw [h4], f2, g2, f3, g3⟩
end
end Go.Proofs.YtjpabeoflhkfkaaGreatDoor
