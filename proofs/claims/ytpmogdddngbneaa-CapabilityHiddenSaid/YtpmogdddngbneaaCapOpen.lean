/-
  Events and worlds that come in.
-/
import Derived.Test.YtpmogdddngbneaaOpen
import Derived.Test.YtpmogdddngbneaaCapHead
namespace Go.Proofs.Ytpmogdddngbneaa
open Go.ChangeShapes Go.WideShapes Go.ChangeAt Go.RowKit Go.WideMaps Go.WideElems

theorem cell_int : Try.prog.cellsOf 3 = 1 := by kernel_rfl
theorem cell_ints : Try.prog.cellsOf 34 = 1 := by kernel_rfl
theorem cell_ev : Try.prog.cellsOf 42 = 4 := by kernel_rfl
theorem flat_one {α : Type} (f : α → Value) (l : List α) : l.flatMap (fun x => [f x]) = l.map f := by
  induction l with
  | nil => rfl
  | cons x l ih => rw [List.flatMap_cons, ih]; rfl
section
variable {H : Type} {enc : TypeId × Value → H} {W : World}
theorem ints_of {fuel : Nat} {cs : List Value} {x : DataW H × List MemPlace} (h : DataW.trod enc Try.prog W 0 (fun _ => true) true fuel 34 cs = some x) :
    ∃ A c ns, cs = [.slice A (List.length ns) c] ∧ Rd W A (ns.map iV) ∧ ns.length ≤ c ∧ c ≤ maxLen ∧ ∀ n ∈ ns, I64 n := by
  obtain ⟨A, c, ns, h1, h2, h3, h4, h5⟩ := rowsk_of (f := fun n => [iV n]) (Q := I64) 1 (by decide) Try.underlying34 cell_int (fun _ => rfl) (fun _ _ _ h => int_of h) h
  rw [flat_one] at h2
  exact ⟨A, c, ns, h1, h2, h3, h4, h5⟩
set_option maxRecDepth 100000 in
theorem event_of {fuel : Nat} {cs : List Value} {x : DataW H × List MemPlace} (h : DataW.trod enc Try.prog W 0 (fun _ => true) true fuel 42 cs = some x) :
    ∃ r : EvC, cs = encE r ∧ (r.ev.s.ok ∧ Rd W r.A (r.ev.needs.map iV) ∧ (∀ n ∈ r.ev.needs, I64 n) ∧ r.ev.needs.length ≤ maxLen) := by
  obtain ⟨xs, m, _, _, hlen, hxl, hf⟩ := DataW.trod_struct Try.underlying42 h
  rw [cell_ev] at hlen
  have hxl' : xs.length = 4 := hxl
  obtain ⟨y0, h0⟩ := fld (o := 0) cell_int (by rw [hxl']; decide) (hf 0 _ rfl)
  obtain ⟨x0, e0, f0⟩ := int_of h0
  obtain ⟨y1, h1⟩ := fld (o := 1) cell_int (by rw [hxl']; decide) (hf 1 _ rfl)
  obtain ⟨x1, e1, f1⟩ := int_of h1
  obtain ⟨y2, h2⟩ := fld (o := 2) cell_int (by rw [hxl']; decide) (hf 2 _ rfl)
  obtain ⟨x2, e2, f2⟩ := int_of h2
  obtain ⟨y3, h3⟩ := fld (o := 3) cell_ints (by rw [hxl']; decide) (hf 3 _ rfl)
  obtain ⟨A, c, ns, e3, f3, g3, g4, g5⟩ := ints_of h3
  have hcs : cs = [iV x0, iV x1, iV x2, .slice A ns.length c] := by
    have hend : cs.drop 4 = [] := List.drop_eq_nil_of_le (by omega)
    have h00 : cs = cs.drop 0 := rfl
    rw [h00, cut cs 0 1, e0, show 0 + 1 = 1 from rfl, cut cs 1 1, e1, show 1 + 1 = 2 from rfl, cut cs 2 1, e2, show 2 + 1 = 3 from rfl, cut cs 3 1, e3, show 3 + 1 = 4 from rfl, hend]
    rfl
  exact ⟨⟨⟨⟨x0, x1, x2⟩, ns⟩, A, c⟩, hcs, ⟨f0, f1, f2⟩, f3, g5, Nat.le_trans g3 g4⟩
set_option maxRecDepth 100000 in
theorem open_events {base : Nat} {v : Value} {d : DataW H} {ps : List MemPlace} (hval : Value.okWide Try.prog W .any base 22 v) (h : DataW.Trod enc Try.prog W 0 (fun _ => true) true 22 v d ps) :
    ∃ A c evs, v = .slice A (List.length evs) c ∧ Events0 W A evs ∧ evs.length ≤ c ∧ c ≤ maxLen := by
  obtain ⟨A, len, cap, rfl⟩ := okWide_slice Try.underlying22 hval
  obtain ⟨fuel, hf⟩ := h
  obtain ⟨A', c, evs, h1, h2, h3, h4, h5⟩ := rowsk_of (f := encE) 4 (by decide) Try.underlying22 cell_ev encE_len (fun _ _ _ h => event_of h) hf
  simp [Value.cells] at h1
  obtain ⟨rfl, rfl, rfl⟩ := h1
  exact ⟨_, _, evs, rfl, ⟨h2, h5, Nat.le_trans h3 h4⟩, h3, h4⟩
set_option maxRecDepth 100000 in
theorem open_worlds {base : Nat} {v : Value} {d : DataW H} {ps : List MemPlace} (hval : Value.okWide Try.prog W .any base 23 v) (h : DataW.Trod enc Try.prog W 0 (fun _ => true) true 23 v d ps) :
    ∃ A c ws, v = .slice A (List.length ws) c ∧ Worlds0 W A ws ∧ ws.length ≤ c ∧ c ≤ maxLen := by
  obtain ⟨A, len, cap, rfl⟩ := okWide_slice Try.underlying23 hval
  obtain ⟨fuel, hf⟩ := h
  obtain ⟨A', c, ws, h1, h2, h3, h4, h5⟩ := rowsk_of (f := fun x : NsC => [slI x]) (Q := fun x => Rd W x.A (x.ns.map iV) ∧ (∀ n ∈ x.ns, I64 n) ∧ x.ns.length ≤ maxLen) 1 (by decide) Try.underlying23 cell_ints (fun _ => rfl)
    (fun _ _ _ h => by obtain ⟨A, c, ns, g1, g2, g3, g4, g5⟩ := ints_of h; exact ⟨⟨ns, A, c⟩, g1, g2, g5, Nat.le_trans g3 g4⟩) hf
  rw [flat_one] at h2
  simp [Value.cells] at h1
  obtain ⟨rfl, rfl, rfl⟩ := h1
  exact ⟨_, _, ws, rfl, ⟨h2, h5, Nat.le_trans h3 h4⟩, h3, h4⟩
end
end Go.Proofs.Ytpmogdddngbneaa
