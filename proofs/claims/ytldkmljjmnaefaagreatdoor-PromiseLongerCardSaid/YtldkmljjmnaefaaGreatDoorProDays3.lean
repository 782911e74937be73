/-
  Tables of promises as they are read; the walk over the reference's Days. (Printed by gen_longer.py.)
-/
import Derived.Test.YtldkmljjmnaefaaGreatDoorPp
namespace Go.Proofs.YtldkmljjmnaefaaGreatDoor
open Go.RowKit

/-- A table of promises that is read. -/
def TabV (w : World) (g C N : Nat) (f : Nat → Nat → Nat → Int) : Prop := ∀ k < C, ∃ g2, w.cell? ⟨g, k, none⟩ = some (.slice (some ⟨g2, 0, none⟩) N N) ∧ ∀ o < N, ∃ g3, w.cell? ⟨g2, o, none⟩ = some (.slice (some ⟨g3, 0, none⟩) N N) ∧ ∀ d < N, w.cell? ⟨g3, d, none⟩ = some (iV (f k o d))
theorem cell_keep {w w' : World} (hb : Below w.heap.size w w') {b i : Nat} {v : Value} (h : w.cell? ⟨b, i, none⟩ = some v) : w'.cell? ⟨b, i, none⟩ = some v := (hb.cell (p := ⟨b, i, none⟩) (World.block_lt_of_cell? w _ h)).trans h
theorem TabV.below {w w' : World} {g C N : Nat} {f : Nat → Nat → Nat → Int} (h : TabV w g C N f) (hb : Below w.heap.size w w') : TabV w' g C N f := fun k hk => by
  obtain ⟨g2, a, b⟩ := h k hk
  refine ⟨g2, cell_keep hb a, fun o ho => ?_⟩
  obtain ⟨g3, c, d⟩ := b o ho
  exact ⟨g3, cell_keep hb c, fun d' hd => cell_keep hb (d d' hd)⟩
theorem rd_cell0 {w : World} {g i : Nat} {xs : List Value} {v : Value} (h : Rd w (some ⟨g, 0, none⟩) xs) (hi : xs[i]? = some v) : w.cell? ⟨g, i, none⟩ = some v := by
  obtain ⟨b, off, he, _, hc⟩ := h.get (i := i) (List.getElem?_eq_some_iff.1 hi).1
  cases he
  have := hc i v hi
  rwa [Nat.zero_add] at this
theorem TabV.of {w : World} {g C N : Nat} {f : Nat → Nat → Nat → Int} {xs : List Value} (h : Rd w (some ⟨g, 0, none⟩) xs) (hx : ∀ k < C, ∃ v, xs[k]? = some v ∧ PrT N f k v (g + 1) w) : TabV w g C N f := fun k hk => by
  obtain ⟨v, hv, g2, xs2, rfl, -, -, r2, -, h2⟩ := hx k hk
  refine ⟨g2, rd_cell0 h hv, fun o ho => ?_⟩
  obtain ⟨u, hu, g3, xs3, rfl, -, -, r3, -, h3⟩ := h2 o ho
  exact ⟨g3, rd_cell0 r2 hu, fun d hd => rd_cell0 r3 (h3 d hd)⟩
theorem drewN_two (w : World) (a b : Nat) : (w.drewN a).drewN b = w.drewN (a + b) := by simp [World.drewN, Nat.add_assoc]
set_option maxHeartbeats 8000000 in
set_option maxRecDepth 100000 in
theorem rdays_any (n : Net) (g : Nat) (f : Nat → Nat → Nat → Int) (w : World) (hn : NetIn w n) (hV : TabV w g n.clss.length n.offs.length f) :
    Calls Tryz.prog 14 #[netV n, .slice (some ⟨g, 0, none⟩) n.clss.length n.clss.length] w fun e w' => e = .returned (.bool true) ∧ Below w.heap.size w w' := by
  have hb0 := ba w (netO n)
  have hx0 := heap_alloc_new w (netO n)
  have HNP : Hid (NetP (w.alloc (netO n)) w.heap.size n) := ⟨fun i v hv => (cell_of_row _ _ _ _ _ _ hx0).trans hv, hn.below hb0⟩
  have HV := Lib.hid (hV.below hb0)
  have HB0 := Lib.hid hb0
  have l1 := hn.lens.2.2.2.1
  have l2 := hn.lens.2.2.2.2.2
  unfold maxLen at l1 l2
  clear hn hV hb0 hx0
  go_enter Tryz.func14, Tryz.ntmps14
  go_upto_region 1 with fail
  change Code.wp _ _ _ _ (w.alloc (netO n))
  generalize (w.alloc (netO n)) = W at *
  generalize hX : w.heap.size = X at *
  have HX := Lib.hid hX; clear hX
  have HNB : Hid (∀ q, Below w.heap.size w (W.drewN q)) := fun q => by have h := HB0.out; rw [← HX.out] at h; exact below_drewN h q
  have n3 : W.cell? ⟨X, 3, none⟩ = some (.slice n.offA n.offs.length n.offC) := HNP.out.box 3 _ rfl
  have n5 : W.cell? ⟨X, 5, none⟩ = some (.slice n.clsA n.clss.length n.clsC) := HNP.out.box 5 _ rfl
  go_wp2_with fail
  generalize n.clss.length = C at *
  generalize n.offs.length = N at *
  go_loopw [5] (fun i wr => ∃ k q : Nat, k ≤ C ∧ i = iV k ∧ wr = W.drewN q) (fun i _ => C + 1 - (intOf i).toNat)
  case atStart => exact ⟨0, 0, by omega, rfl, rfl⟩
  case round =>
  obtain ⟨k, q, hk, rfl, rfl⟩ := hrel
  have k0 : (0 : Int) ≤ (k : Int) := by omega
  by_cases hlt : k < C
  case neg =>
    have k1 : ¬ (k : Int) < (C : Int) := by omega
    go_wp2_with fail
    go_ret
    exact ⟨rfl, HNB.out _⟩
  have k1 : (k : Int) < (C : Int) := by omega
  obtain ⟨g2, c2, h2⟩ := HV.out k hlt
  have H2 := Lib.hid h2; clear h2
  go_wp2_with fail
  go_quiet (fail)
  go_wp2_with fail
  go_loopw [6] (fun i wr => ∃ o q : Nat, o ≤ N ∧ i = iV o ∧ wr = W.drewN q) (fun i _ => N + 1 - (intOf i).toNat)
  case atStart => exact ⟨0, _, by omega, rfl, drewN_two _ _ _⟩
  case round =>
  obtain ⟨o, q2, ho, rfl, rfl⟩ := hrel
  have o0 : (0 : Int) ≤ (o : Int) := by omega
  by_cases hot : o < N
  case neg =>
    have o1 : ¬ (o : Int) < (N : Int) := by omega
    go_wp2_with fail
    go_roundw
    case rel => exact ⟨k + 1, _, by omega, by go_num, rfl⟩
    case measure => simp [intOf]; omega
  have o1 : (o : Int) < (N : Int) := by omega
  obtain ⟨g3, c3, -⟩ := H2.out o hot
  go_wp2_with fail
  go_quiet (fail)
  go_wp2_with fail
  go_roundw
  case rel => exact ⟨o + 1, _, by omega, by go_num, rfl⟩
  case measure => simp [intOf]; omega
end Go.Proofs.YtldkmljjmnaefaaGreatDoor
