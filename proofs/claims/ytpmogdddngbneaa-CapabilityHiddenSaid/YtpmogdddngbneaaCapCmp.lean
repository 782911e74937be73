/-
  The comparison of sights: closures over closures.
-/
import Derived.Test.YtpmogdddngbneaaCapKey
import Derived.Test.YtpmogdddngbneaaShelf
import Derived.Deep.RegionHeld3
namespace Go.Proofs.Ytpmogdddngbneaa
open Go.RowKit
open Go.Sort (grow alloc_eq_grow grow_grow)

theorem cell_of_blk (w : World) (k j : Nat) (cs : Array Value) (t : TypeId) (h : w.heap[k]? = some (.cells cs t (0, 0))) {v : Value} (hv : cs[j]? = some v) : w.cell? ⟨k, j, none⟩ = some v := by
  simp only [World.cell?]
  rw [h]
  simpa using hv
/-- Draws and blocks that are new: nothing else has turned. -/
def Gr (W W' : World) : Prop := ∃ q os', W' = grow (W.drewN q) os'
theorem Gr.refl (W : World) : Gr W W := ⟨0, #[], by simp [grow, World.drewN]⟩
theorem Gr.trans {a b c : World} (h : Gr a b) (k : Gr b c) : Gr a c := by
  obtain ⟨q, os, rfl⟩ := h
  obtain ⟨p, os', rfl⟩ := k
  exact ⟨q + p, os ++ os', by simp [grow, World.drewN, Nat.add_assoc]⟩
theorem Gr.alloc (W : World) (o : Obj) : Gr W (W.alloc o) := ⟨0, #[o], by rw [alloc_eq_grow]; simp [grow, World.drewN]⟩
theorem Gr.drewN (W : World) (n : Nat) : Gr W (W.drewN n) := ⟨n, #[], by simp [grow, World.drewN]⟩
theorem Gr.drew (W : World) : Gr W W.drew := Gr.drewN W 1
theorem Gr.below {W W' : World} (h : Gr W W') : Below W.heap.size W W' := by
  obtain ⟨q, os, rfl⟩ := h
  refine ⟨rfl, rfl, rfl, by simp [grow, World.drewN], fun i hi => ?_⟩
  simp only [grow, World.drewN]
  rw [Array.getElem?_append_left hi]
theorem Gr.cell {W W' : World} (h : Gr W W') {a : Addr} (ha : a.block < W.heap.size) {v : Value} (hv : W.cell? a = some v) : W'.cell? a = some v := (h.below.cell ha).trans hv
theorem Gr.size {W W' : World} (h : Gr W W') : W.heap.size ≤ W'.heap.size := h.below.size

set_option maxHeartbeats 1000000 in
theorem num30 (s : Sight) (W : World) : Calls Try.prog 30 #[gV s] W fun e w' => e = .returned (iV s.o) ∧ Gr W w' := by
  go_enter Try.func30, Try.ntmps30
  go_wp2
  go_ret
  exact ⟨rfl, Gr.alloc _ _⟩
/-- The cells that the comparison by a number reads. -/
def PS30 (W : World) (x y : Sight) (b : Nat) (w' : World) : Prop :=
  Gr W w' ∧ b < W.heap.size ∧ W.heap.size + 1 < w'.heap.size ∧ w'.cell? ⟨b, 0, none⟩ = some (.func (.func 30) #[] #[]) ∧ w'.cell? ⟨W.heap.size, 0, none⟩ = some (iV x.o) ∧ w'.cell? ⟨W.heap.size, 1, none⟩ = some (iV x.lo) ∧ w'.cell? ⟨W.heap.size, 2, none⟩ = some (iV x.hi) ∧ w'.cell? ⟨W.heap.size + 1, 0, none⟩ = some (iV y.o) ∧ w'.cell? ⟨W.heap.size + 1, 1, none⟩ = some (iV y.lo) ∧ w'.cell? ⟨W.heap.size + 1, 2, none⟩ = some (iV y.hi)
theorem PS30.call {W : World} {x y : Sight} {b : Nat} {w0 w1 : World} (h : PS30 W x y b w0) (g : Gr w0 w1) : PS30 W x y b w1 := by
  obtain ⟨h1, h2, h3, c0, c1, c2, c3, c4, c5, c6⟩ := h
  have := h1.size
  have := g.size
  exact ⟨h1.trans g, h2, by omega, g.cell (by show b < _; omega) c0, g.cell (by show W.heap.size < _; omega) c1, g.cell (by show W.heap.size < _; omega) c2, g.cell (by show W.heap.size < _; omega) c3, g.cell (by show W.heap.size + 1 < _; omega) c4, g.cell (by show W.heap.size + 1 < _; omega) c5, g.cell (by show W.heap.size + 1 < _; omega) c6⟩
theorem PS30.start {W : World} {x y : Sight} {b : Nat} (hc : W.cell? ⟨b, 0, none⟩ = some (.func (.func 30) #[] #[])) (hb : b < W.heap.size) (t : TypeId) : PS30 W x y b (((W.alloc (.cells #[iV x.o, iV x.lo, iV x.hi] t)).alloc (.cells #[iV y.o, iV y.lo, iV y.hi] t)).drew) := by
  have g1 := Gr.alloc W (.cells #[iV x.o, iV x.lo, iV x.hi] t)
  have g2 := (Gr.alloc (W.alloc (.cells #[iV x.o, iV x.lo, iV x.hi] t)) (.cells #[iV y.o, iV y.lo, iV y.hi] t)).trans (Gr.drew _)
  have n1 := heap_alloc_new W (.cells #[iV x.o, iV x.lo, iV x.hi] t)
  have n2 := heap_alloc_new (W.alloc (.cells #[iV x.o, iV x.lo, iV x.hi] t)) (.cells #[iV y.o, iV y.lo, iV y.hi] t)
  have e1 : (W.alloc (.cells #[iV x.o, iV x.lo, iV x.hi] t)).heap.size = W.heap.size + 1 := by simp
  rw [e1] at n2
  have gc := Gr.drew ((W.alloc (.cells #[iV x.o, iV x.lo, iV x.hi] t)).alloc (.cells #[iV y.o, iV y.lo, iV y.hi] t))
  refine ⟨g1.trans g2, hb, by show _ < (World.alloc _ _).heap.size; simp, (g1.trans g2).cell hb hc, g2.cell (by simp) (cell_of_blk _ _ 0 _ _ n1 rfl), g2.cell (by simp) (cell_of_blk _ _ 1 _ _ n1 rfl), g2.cell (by simp) (cell_of_blk _ _ 2 _ _ n1 rfl), ?_, ?_, ?_⟩
  · exact gc.cell (by simp) (cell_of_blk _ _ 0 _ _ n2 rfl)
  · exact gc.cell (by simp) (cell_of_blk _ _ 1 _ _ n2 rfl)
  · exact gc.cell (by simp) (cell_of_blk _ _ 2 _ _ n2 rfl)
set_option maxHeartbeats 4000000 in
set_option maxRecDepth 100000 in
theorem by30 (x y : Sight) (b : Nat) (W : World) (hc : W.cell? ⟨b, 0, none⟩ = some (.func (.func 30) #[] #[])) (hb : b < W.heap.size) :
    Calls Try.prog 36 #[gV x, gV y, .pointer (some ⟨b, 0, none⟩)] W fun e w' => e = .returned (iV (Lib.compareInt x.o y.o)) ∧ Gr W w' := by
  have HS := Lib.hid (PS30.start (x := x) (y := y) hc hb 39)
  have CC := Lib.hid (fun W' => Try.cmp_Compare_int x.o y.o W')
  generalize Lib.compareInt x.o y.o = r at CC ⊢
  go_enter Try.func36, Try.ntmps36
  go_wp2
  go_region_held3 (fun w' => Gr W w' ∧ b < W.heap.size ∧ W.heap.size + 1 < w'.heap.size ∧ w'.cell? ⟨b, 0, none⟩ = some (.func (.func 30) #[] #[]) ∧ w'.cell? ⟨W.heap.size, 0, none⟩ = some (iV x.o) ∧ w'.cell? ⟨W.heap.size, 1, none⟩ = some (iV x.lo) ∧ w'.cell? ⟨W.heap.size, 2, none⟩ = some (iV x.hi) ∧ w'.cell? ⟨W.heap.size + 1, 0, none⟩ = some (iV y.o) ∧ w'.cell? ⟨W.heap.size + 1, 1, none⟩ = some (iV y.lo) ∧ w'.cell? ⟨W.heap.size + 1, 2, none⟩ = some (iV y.hi))
    (first | exact hs2.out | exact hs1.out | exact HS.out)
    (first
      | (go_at_call 30; refine (num30 _ _).mono ?_; rintro e w1 ⟨rfl, hg1⟩; first | (have hs2 := Lib.hid (PS30.call hs1.out hg1); clear hg1) | (have hs1 := Lib.hid (PS30.call HS.out hg1); clear hg1))
      | (go_at_call 37; refine (CC.out _).mono ?_; rintro e w1 ⟨rfl, rfl⟩))
  all_goals
    go_wp2
    go_ret
    exact ⟨rfl, hs2.out.1⟩

set_option maxHeartbeats 1000000 in
theorem num32 (s : Sight) (W : World) : Calls Try.prog 32 #[gV s] W fun e w' => e = .returned (iV s.lo) ∧ Gr W w' := by
  go_enter Try.func32, Try.ntmps32
  go_wp2
  go_ret
  exact ⟨rfl, Gr.alloc _ _⟩
/-- The cells that the comparison by a number reads. -/
def PS32 (W : World) (x y : Sight) (b : Nat) (w' : World) : Prop :=
  Gr W w' ∧ b < W.heap.size ∧ W.heap.size + 1 < w'.heap.size ∧ w'.cell? ⟨b, 0, none⟩ = some (.func (.func 32) #[] #[]) ∧ w'.cell? ⟨W.heap.size, 0, none⟩ = some (iV x.o) ∧ w'.cell? ⟨W.heap.size, 1, none⟩ = some (iV x.lo) ∧ w'.cell? ⟨W.heap.size, 2, none⟩ = some (iV x.hi) ∧ w'.cell? ⟨W.heap.size + 1, 0, none⟩ = some (iV y.o) ∧ w'.cell? ⟨W.heap.size + 1, 1, none⟩ = some (iV y.lo) ∧ w'.cell? ⟨W.heap.size + 1, 2, none⟩ = some (iV y.hi)
theorem PS32.call {W : World} {x y : Sight} {b : Nat} {w0 w1 : World} (h : PS32 W x y b w0) (g : Gr w0 w1) : PS32 W x y b w1 := by
  obtain ⟨h1, h2, h3, c0, c1, c2, c3, c4, c5, c6⟩ := h
  have := h1.size
  have := g.size
  exact ⟨h1.trans g, h2, by omega, g.cell (by show b < _; omega) c0, g.cell (by show W.heap.size < _; omega) c1, g.cell (by show W.heap.size < _; omega) c2, g.cell (by show W.heap.size < _; omega) c3, g.cell (by show W.heap.size + 1 < _; omega) c4, g.cell (by show W.heap.size + 1 < _; omega) c5, g.cell (by show W.heap.size + 1 < _; omega) c6⟩
theorem PS32.start {W : World} {x y : Sight} {b : Nat} (hc : W.cell? ⟨b, 0, none⟩ = some (.func (.func 32) #[] #[])) (hb : b < W.heap.size) (t : TypeId) : PS32 W x y b (((W.alloc (.cells #[iV x.o, iV x.lo, iV x.hi] t)).alloc (.cells #[iV y.o, iV y.lo, iV y.hi] t)).drew) := by
  have g1 := Gr.alloc W (.cells #[iV x.o, iV x.lo, iV x.hi] t)
  have g2 := (Gr.alloc (W.alloc (.cells #[iV x.o, iV x.lo, iV x.hi] t)) (.cells #[iV y.o, iV y.lo, iV y.hi] t)).trans (Gr.drew _)
  have n1 := heap_alloc_new W (.cells #[iV x.o, iV x.lo, iV x.hi] t)
  have n2 := heap_alloc_new (W.alloc (.cells #[iV x.o, iV x.lo, iV x.hi] t)) (.cells #[iV y.o, iV y.lo, iV y.hi] t)
  have e1 : (W.alloc (.cells #[iV x.o, iV x.lo, iV x.hi] t)).heap.size = W.heap.size + 1 := by simp
  rw [e1] at n2
  have gc := Gr.drew ((W.alloc (.cells #[iV x.o, iV x.lo, iV x.hi] t)).alloc (.cells #[iV y.o, iV y.lo, iV y.hi] t))
  refine ⟨g1.trans g2, hb, by show _ < (World.alloc _ _).heap.size; simp, (g1.trans g2).cell hb hc, g2.cell (by simp) (cell_of_blk _ _ 0 _ _ n1 rfl), g2.cell (by simp) (cell_of_blk _ _ 1 _ _ n1 rfl), g2.cell (by simp) (cell_of_blk _ _ 2 _ _ n1 rfl), ?_, ?_, ?_⟩
  · exact gc.cell (by simp) (cell_of_blk _ _ 0 _ _ n2 rfl)
  · exact gc.cell (by simp) (cell_of_blk _ _ 1 _ _ n2 rfl)
  · exact gc.cell (by simp) (cell_of_blk _ _ 2 _ _ n2 rfl)
set_option maxHeartbeats 4000000 in
set_option maxRecDepth 100000 in
theorem by32 (x y : Sight) (b : Nat) (W : World) (hc : W.cell? ⟨b, 0, none⟩ = some (.func (.func 32) #[] #[])) (hb : b < W.heap.size) :
    Calls Try.prog 36 #[gV x, gV y, .pointer (some ⟨b, 0, none⟩)] W fun e w' => e = .returned (iV (Lib.compareInt x.lo y.lo)) ∧ Gr W w' := by
  have HS := Lib.hid (PS32.start (x := x) (y := y) hc hb 39)
  have CC := Lib.hid (fun W' => Try.cmp_Compare_int x.lo y.lo W')
  generalize Lib.compareInt x.lo y.lo = r at CC ⊢
  go_enter Try.func36, Try.ntmps36
  go_wp2
  go_region_held3 (fun w' => Gr W w' ∧ b < W.heap.size ∧ W.heap.size + 1 < w'.heap.size ∧ w'.cell? ⟨b, 0, none⟩ = some (.func (.func 32) #[] #[]) ∧ w'.cell? ⟨W.heap.size, 0, none⟩ = some (iV x.o) ∧ w'.cell? ⟨W.heap.size, 1, none⟩ = some (iV x.lo) ∧ w'.cell? ⟨W.heap.size, 2, none⟩ = some (iV x.hi) ∧ w'.cell? ⟨W.heap.size + 1, 0, none⟩ = some (iV y.o) ∧ w'.cell? ⟨W.heap.size + 1, 1, none⟩ = some (iV y.lo) ∧ w'.cell? ⟨W.heap.size + 1, 2, none⟩ = some (iV y.hi))
    (first | exact hs2.out | exact hs1.out | exact HS.out)
    (first
      | (go_at_call 32; refine (num32 _ _).mono ?_; rintro e w1 ⟨rfl, hg1⟩; first | (have hs2 := Lib.hid (PS32.call hs1.out hg1); clear hg1) | (have hs1 := Lib.hid (PS32.call HS.out hg1); clear hg1))
      | (go_at_call 37; refine (CC.out _).mono ?_; rintro e w1 ⟨rfl, rfl⟩))
  all_goals
    go_wp2
    go_ret
    exact ⟨rfl, hs2.out.1⟩

set_option maxHeartbeats 1000000 in
theorem num33 (s : Sight) (W : World) : Calls Try.prog 33 #[gV s] W fun e w' => e = .returned (iV s.hi) ∧ Gr W w' := by
  go_enter Try.func33, Try.ntmps33
  go_wp2
  go_ret
  exact ⟨rfl, Gr.alloc _ _⟩
/-- The cells that the comparison by a number reads. -/
def PS33 (W : World) (x y : Sight) (b : Nat) (w' : World) : Prop :=
  Gr W w' ∧ b < W.heap.size ∧ W.heap.size + 1 < w'.heap.size ∧ w'.cell? ⟨b, 0, none⟩ = some (.func (.func 33) #[] #[]) ∧ w'.cell? ⟨W.heap.size, 0, none⟩ = some (iV x.o) ∧ w'.cell? ⟨W.heap.size, 1, none⟩ = some (iV x.lo) ∧ w'.cell? ⟨W.heap.size, 2, none⟩ = some (iV x.hi) ∧ w'.cell? ⟨W.heap.size + 1, 0, none⟩ = some (iV y.o) ∧ w'.cell? ⟨W.heap.size + 1, 1, none⟩ = some (iV y.lo) ∧ w'.cell? ⟨W.heap.size + 1, 2, none⟩ = some (iV y.hi)
theorem PS33.call {W : World} {x y : Sight} {b : Nat} {w0 w1 : World} (h : PS33 W x y b w0) (g : Gr w0 w1) : PS33 W x y b w1 := by
  obtain ⟨h1, h2, h3, c0, c1, c2, c3, c4, c5, c6⟩ := h
  have := h1.size
  have := g.size
  exact ⟨h1.trans g, h2, by omega, g.cell (by show b < _; omega) c0, g.cell (by show W.heap.size < _; omega) c1, g.cell (by show W.heap.size < _; omega) c2, g.cell (by show W.heap.size < _; omega) c3, g.cell (by show W.heap.size + 1 < _; omega) c4, g.cell (by show W.heap.size + 1 < _; omega) c5, g.cell (by show W.heap.size + 1 < _; omega) c6⟩
theorem PS33.start {W : World} {x y : Sight} {b : Nat} (hc : W.cell? ⟨b, 0, none⟩ = some (.func (.func 33) #[] #[])) (hb : b < W.heap.size) (t : TypeId) : PS33 W x y b (((W.alloc (.cells #[iV x.o, iV x.lo, iV x.hi] t)).alloc (.cells #[iV y.o, iV y.lo, iV y.hi] t)).drew) := by
  have g1 := Gr.alloc W (.cells #[iV x.o, iV x.lo, iV x.hi] t)
  have g2 := (Gr.alloc (W.alloc (.cells #[iV x.o, iV x.lo, iV x.hi] t)) (.cells #[iV y.o, iV y.lo, iV y.hi] t)).trans (Gr.drew _)
  have n1 := heap_alloc_new W (.cells #[iV x.o, iV x.lo, iV x.hi] t)
  have n2 := heap_alloc_new (W.alloc (.cells #[iV x.o, iV x.lo, iV x.hi] t)) (.cells #[iV y.o, iV y.lo, iV y.hi] t)
  have e1 : (W.alloc (.cells #[iV x.o, iV x.lo, iV x.hi] t)).heap.size = W.heap.size + 1 := by simp
  rw [e1] at n2
  have gc := Gr.drew ((W.alloc (.cells #[iV x.o, iV x.lo, iV x.hi] t)).alloc (.cells #[iV y.o, iV y.lo, iV y.hi] t))
  refine ⟨g1.trans g2, hb, by show _ < (World.alloc _ _).heap.size; simp, (g1.trans g2).cell hb hc, g2.cell (by simp) (cell_of_blk _ _ 0 _ _ n1 rfl), g2.cell (by simp) (cell_of_blk _ _ 1 _ _ n1 rfl), g2.cell (by simp) (cell_of_blk _ _ 2 _ _ n1 rfl), ?_, ?_, ?_⟩
  · exact gc.cell (by simp) (cell_of_blk _ _ 0 _ _ n2 rfl)
  · exact gc.cell (by simp) (cell_of_blk _ _ 1 _ _ n2 rfl)
  · exact gc.cell (by simp) (cell_of_blk _ _ 2 _ _ n2 rfl)
set_option maxHeartbeats 4000000 in
set_option maxRecDepth 100000 in
theorem by33 (x y : Sight) (b : Nat) (W : World) (hc : W.cell? ⟨b, 0, none⟩ = some (.func (.func 33) #[] #[])) (hb : b < W.heap.size) :
    Calls Try.prog 36 #[gV x, gV y, .pointer (some ⟨b, 0, none⟩)] W fun e w' => e = .returned (iV (Lib.compareInt x.hi y.hi)) ∧ Gr W w' := by
  have HS := Lib.hid (PS33.start (x := x) (y := y) hc hb 39)
  have CC := Lib.hid (fun W' => Try.cmp_Compare_int x.hi y.hi W')
  generalize Lib.compareInt x.hi y.hi = r at CC ⊢
  go_enter Try.func36, Try.ntmps36
  go_wp2
  go_region_held3 (fun w' => Gr W w' ∧ b < W.heap.size ∧ W.heap.size + 1 < w'.heap.size ∧ w'.cell? ⟨b, 0, none⟩ = some (.func (.func 33) #[] #[]) ∧ w'.cell? ⟨W.heap.size, 0, none⟩ = some (iV x.o) ∧ w'.cell? ⟨W.heap.size, 1, none⟩ = some (iV x.lo) ∧ w'.cell? ⟨W.heap.size, 2, none⟩ = some (iV x.hi) ∧ w'.cell? ⟨W.heap.size + 1, 0, none⟩ = some (iV y.o) ∧ w'.cell? ⟨W.heap.size + 1, 1, none⟩ = some (iV y.lo) ∧ w'.cell? ⟨W.heap.size + 1, 2, none⟩ = some (iV y.hi))
    (first | exact hs2.out | exact hs1.out | exact HS.out)
    (first
      | (go_at_call 33; refine (num33 _ _).mono ?_; rintro e w1 ⟨rfl, hg1⟩; first | (have hs2 := Lib.hid (PS33.call hs1.out hg1); clear hg1) | (have hs1 := Lib.hid (PS33.call HS.out hg1); clear hg1))
      | (go_at_call 37; refine (CC.out _).mono ?_; rintro e w1 ⟨rfl, rfl⟩))
  all_goals
    go_wp2
    go_ret
    exact ⟨rfl, hs2.out.1⟩

theorem cell_lt {W : World} {a : Addr} {v : Value} (h : W.cell? a = some v) : a.block < W.heap.size := by
  unfold World.cell? at h
  split at h
  · rename_i hb
    exact (Array.getElem?_eq_some_iff.1 hb).1
  · cases h
def orI (a b : Int) : Int := if a = 0 then b else a
set_option maxHeartbeats 2000000 in
set_option maxRecDepth 100000 in
theorem or_any (r s : Int) (A : Option Addr) (c : Nat) (w : World) (hA : Rd w A ([r, s].map iV)) :
    Calls Try.prog 39 #[.slice A 2 c] w fun e w' => e = .returned (iV (orI r s)) ∧ w = w' := by
  obtain ⟨b, off, rfl, hb, hc⟩ := hA.get (i := 0) (by simp)
  have k0 : w.cell? ⟨b, off, none⟩ = some (iV r) := hc 0 _ rfl
  have k1 : w.cell? ⟨b, off + 1, none⟩ = some (iV s) := hc 1 _ rfl
  clear hc hA
  unfold orI
  by_cases h0 : r = 0
  · subst h0
    by_cases h1 : s = 0
    · subst h1
      go_enter Try.func39, Try.ntmps39
      go_wp2
      refine wp_loop_rounds 3 ?_
      rw [rounds_succ]; go_wp2
      rw [rounds_succ]; go_wp2
      rw [rounds_succ]; go_wp2
      go_ret
      exact ⟨rfl, rfl⟩
    · go_enter Try.func39, Try.ntmps39
      go_wp2
      refine wp_loop_rounds 2 ?_
      rw [rounds_succ]; go_wp2
      rw [rounds_succ]; go_wp2
      go_ret
      exact ⟨rfl, rfl⟩
  · go_enter Try.func39, Try.ntmps39
    go_wp2
    refine wp_loop_rounds 1 ?_
    rw [rounds_succ]; go_wp2
    go_ret
    exact ⟨rfl, rfl⟩
/-- The cells that 'first, then next' reads. -/
def PT (W : World) (x y : Sight) (b1 b2 : Nat) (f1 f2 : Value) (w' : World) : Prop :=
  Gr W w' ∧ (b1 < W.heap.size ∧ b2 < W.heap.size) ∧ W.heap.size + 1 < w'.heap.size ∧ w'.cell? ⟨b1, 0, none⟩ = some f1 ∧ w'.cell? ⟨b2, 0, none⟩ = some f2 ∧ w'.cell? ⟨W.heap.size, 0, none⟩ = some (iV x.o) ∧ w'.cell? ⟨W.heap.size, 1, none⟩ = some (iV x.lo) ∧ w'.cell? ⟨W.heap.size, 2, none⟩ = some (iV x.hi) ∧ w'.cell? ⟨W.heap.size + 1, 0, none⟩ = some (iV y.o) ∧ w'.cell? ⟨W.heap.size + 1, 1, none⟩ = some (iV y.lo) ∧ w'.cell? ⟨W.heap.size + 1, 2, none⟩ = some (iV y.hi)
theorem PT.call {W : World} {x y : Sight} {b1 b2 : Nat} {f1 f2 : Value} {w0 w1 : World} (h : PT W x y b1 b2 f1 f2 w0) (g : Gr w0 w1) : PT W x y b1 b2 f1 f2 w1 := by
  obtain ⟨h1, ⟨h2, h2'⟩, h3, c0, c0', c1, c2, c3, c4, c5, c6⟩ := h
  have := h1.size
  have := g.size
  exact ⟨h1.trans g, ⟨h2, h2'⟩, by omega, g.cell (by show b1 < _; omega) c0, g.cell (by show b2 < _; omega) c0', g.cell (by show W.heap.size < _; omega) c1, g.cell (by show W.heap.size < _; omega) c2, g.cell (by show W.heap.size < _; omega) c3, g.cell (by show W.heap.size + 1 < _; omega) c4, g.cell (by show W.heap.size + 1 < _; omega) c5, g.cell (by show W.heap.size + 1 < _; omega) c6⟩
theorem PT.start {W : World} {x y : Sight} {b1 b2 : Nat} {f1 f2 : Value} (hc : W.cell? ⟨b1, 0, none⟩ = some f1) (hc' : W.cell? ⟨b2, 0, none⟩ = some f2) (t : TypeId) : PT W x y b1 b2 f1 f2 (((W.alloc (.cells #[iV x.o, iV x.lo, iV x.hi] t)).alloc (.cells #[iV y.o, iV y.lo, iV y.hi] t)).drew) := by
  have hb := cell_lt hc
  have hb' := cell_lt hc'
  have g1 := Gr.alloc W (.cells #[iV x.o, iV x.lo, iV x.hi] t)
  have g2 := (Gr.alloc (W.alloc (.cells #[iV x.o, iV x.lo, iV x.hi] t)) (.cells #[iV y.o, iV y.lo, iV y.hi] t)).trans (Gr.drew _)
  have n1 := heap_alloc_new W (.cells #[iV x.o, iV x.lo, iV x.hi] t)
  have n2 := heap_alloc_new (W.alloc (.cells #[iV x.o, iV x.lo, iV x.hi] t)) (.cells #[iV y.o, iV y.lo, iV y.hi] t)
  have e1 : (W.alloc (.cells #[iV x.o, iV x.lo, iV x.hi] t)).heap.size = W.heap.size + 1 := by simp
  rw [e1] at n2
  have gc := Gr.drew ((W.alloc (.cells #[iV x.o, iV x.lo, iV x.hi] t)).alloc (.cells #[iV y.o, iV y.lo, iV y.hi] t))
  refine ⟨g1.trans g2, ⟨hb, hb'⟩, by show _ < (World.alloc _ _).heap.size; simp, (g1.trans g2).cell hb hc, (g1.trans g2).cell hb' hc', g2.cell (by simp) (cell_of_blk _ _ 0 _ _ n1 rfl), g2.cell (by simp) (cell_of_blk _ _ 1 _ _ n1 rfl), g2.cell (by simp) (cell_of_blk _ _ 2 _ _ n1 rfl), ?_, ?_, ?_⟩
  · exact gc.cell (by simp) (cell_of_blk _ _ 0 _ _ n2 rfl)
  · exact gc.cell (by simp) (cell_of_blk _ _ 1 _ _ n2 rfl)
  · exact gc.cell (by simp) (cell_of_blk _ _ 2 _ _ n2 rfl)
abbrev fV (f : FuncId) (ps : List Nat) : Value := .func (.func f) #[] (ps.map fun p => Value.pointer (some ⟨p, 0, none⟩)).toArray
/-- What the comparison's closures hold. -/
structure Env1 (W : World) (b1 p1 b2 p2 : Nat) : Prop where
  e1 : W.cell? ⟨b1, 0, none⟩ = some (.func (.func 36) #[] #[.pointer (some ⟨p1, 0, none⟩)])
  e2 : W.cell? ⟨p1, 0, none⟩ = some (.func (.func 30) #[] #[])
  e3 : W.cell? ⟨b2, 0, none⟩ = some (.func (.func 36) #[] #[.pointer (some ⟨p2, 0, none⟩)])
  e4 : W.cell? ⟨p2, 0, none⟩ = some (.func (.func 32) #[] #[])
structure Env2 (W : World) (b1 p1 b2 p2 c1 c2 p3 : Nat) : Prop where
  env : Env1 W b1 p1 b2 p2
  e5 : W.cell? ⟨c1, 0, none⟩ = some (.func (.func 38) #[] #[.pointer (some ⟨b1, 0, none⟩), .pointer (some ⟨b2, 0, none⟩)])
  e6 : W.cell? ⟨c2, 0, none⟩ = some (.func (.func 36) #[] #[.pointer (some ⟨p3, 0, none⟩)])
  e7 : W.cell? ⟨p3, 0, none⟩ = some (.func (.func 33) #[] #[])
theorem Env1.gr {W W' : World} {b1 p1 b2 p2 : Nat} (h : Env1 W b1 p1 b2 p2) (g : Gr W W') : Env1 W' b1 p1 b2 p2 :=
  ⟨g.cell (cell_lt h.e1) h.e1, g.cell (cell_lt h.e2) h.e2, g.cell (cell_lt h.e3) h.e3, g.cell (cell_lt h.e4) h.e4⟩
theorem Env2.gr {W W' : World} {b1 p1 b2 p2 c1 c2 p3 : Nat} (h : Env2 W b1 p1 b2 p2 c1 c2 p3) (g : Gr W W') : Env2 W' b1 p1 b2 p2 c1 c2 p3 :=
  ⟨h.env.gr g, g.cell (cell_lt h.e5) h.e5, g.cell (cell_lt h.e6) h.e6, g.cell (cell_lt h.e7) h.e7⟩

end Go.Proofs.Ytpmogdddngbneaa
