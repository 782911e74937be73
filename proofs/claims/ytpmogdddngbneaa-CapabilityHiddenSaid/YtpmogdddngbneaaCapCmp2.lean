/-
  The comparison of sights: first, then next.
-/
import Derived.Test.YtpmogdddngbneaaCapCmp
namespace Go.Proofs.Ytpmogdddngbneaa
open Go.RowKit
open Go.Sort (grow alloc_eq_grow grow_grow)
set_option maxHeartbeats 8000000 in
set_option maxRecDepth 100000 in
theorem then1 (x y : Sight) (b1 p1 b2 p2 : Nat) (W : World) (HE : Env1 W b1 p1 b2 p2) :
    Calls Try.prog 38 #[gV x, gV y, .pointer (some ⟨b1, 0, none⟩), .pointer (some ⟨b2, 0, none⟩)] W fun e w' => e = .returned (iV (orI (Lib.compareInt x.o y.o) (Lib.compareInt x.lo y.lo))) ∧ Gr W w' := by
  have HS := Lib.hid (PT.start (x := x) (y := y) HE.e1 HE.e3 39)
  have gs0 := Lib.hid HS.out.1
  have C1 := Lib.hid (show ∀ w', Gr W w' → Calls Try.prog 36 #[gV x, gV y, .pointer (some ⟨p1, 0, none⟩)] w' (fun e w2 => e = .returned (iV (Lib.compareInt x.o y.o)) ∧ Gr w' w2) from fun w' g => by30 x y p1 w' (HE.gr g).e2 (cell_lt (HE.gr g).e2))
  have C2 := Lib.hid (show ∀ w', Gr W w' → Calls Try.prog 36 #[gV x, gV y, .pointer (some ⟨p2, 0, none⟩)] w' (fun e w2 => e = .returned (iV (Lib.compareInt x.lo y.lo)) ∧ Gr w' w2) from fun w' g => by32 x y p2 w' (HE.gr g).e4 (cell_lt (HE.gr g).e4))
  clear HE
  generalize (Lib.compareInt x.o y.o) = r1 at C1 ⊢
  generalize (Lib.compareInt x.lo y.lo) = r2 at C2 ⊢
  go_enter Try.func38, Try.ntmps38
  go_wp2
  go_region_held3 (fun w' => Gr W w' ∧ (b1 < W.heap.size ∧ b2 < W.heap.size) ∧ W.heap.size + 1 < w'.heap.size ∧ w'.cell? ⟨b1, 0, none⟩ = some (.func (.func 36) #[] #[.pointer (some ⟨p1, 0, none⟩)]) ∧ w'.cell? ⟨b2, 0, none⟩ = some (.func (.func 36) #[] #[.pointer (some ⟨p2, 0, none⟩)]) ∧ w'.cell? ⟨W.heap.size, 0, none⟩ = some (iV x.o) ∧ w'.cell? ⟨W.heap.size, 1, none⟩ = some (iV x.lo) ∧ w'.cell? ⟨W.heap.size, 2, none⟩ = some (iV x.hi) ∧ w'.cell? ⟨W.heap.size + 1, 0, none⟩ = some (iV y.o) ∧ w'.cell? ⟨W.heap.size + 1, 1, none⟩ = some (iV y.lo) ∧ w'.cell? ⟨W.heap.size + 1, 2, none⟩ = some (iV y.hi))
    (first | exact PT.call hs2.out (Gr.alloc _ _) | exact hs2.out | exact hs1.out | exact HS.out)
    (first
      | (go_at_call 36; (with_reducible refine Calls.mono (C1.out _ gs1.out) ?_); rintro e w1 ⟨rfl, hg1⟩; first | (have hs2 := Lib.hid (PT.call hs1.out hg1); clear hg1; have gs2 := Lib.hid hs2.out.1) | (have hs1 := Lib.hid (PT.call HS.out hg1); clear hg1; have gs1 := Lib.hid hs1.out.1))
      | (go_at_call 36; (with_reducible refine Calls.mono (C1.out _ gs0.out) ?_); rintro e w1 ⟨rfl, hg1⟩; first | (have hs2 := Lib.hid (PT.call hs1.out hg1); clear hg1; have gs2 := Lib.hid hs2.out.1) | (have hs1 := Lib.hid (PT.call HS.out hg1); clear hg1; have gs1 := Lib.hid hs1.out.1))
      | (go_at_call 36; (with_reducible refine Calls.mono (C2.out _ gs1.out) ?_); rintro e w1 ⟨rfl, hg1⟩; first | (have hs2 := Lib.hid (PT.call hs1.out hg1); clear hg1; have gs2 := Lib.hid hs2.out.1) | (have hs1 := Lib.hid (PT.call HS.out hg1); clear hg1; have gs1 := Lib.hid hs1.out.1))
      | (go_at_call 36; (with_reducible refine Calls.mono (C2.out _ gs0.out) ?_); rintro e w1 ⟨rfl, hg1⟩; first | (have hs2 := Lib.hid (PT.call hs1.out hg1); clear hg1; have gs2 := Lib.hid hs2.out.1) | (have hs1 := Lib.hid (PT.call HS.out hg1); clear hg1; have gs1 := Lib.hid hs1.out.1))
      | (go_at_call 39; refine (or_any r1 r2 _ _ _ (Rd.new _ _ _)).mono ?_; rintro e w1 ⟨rfl, rfl⟩))
  all_goals
    go_wp2
    go_ret
    exact ⟨rfl, hs2.out.1.trans (Gr.alloc _ _)⟩

set_option maxHeartbeats 8000000 in
set_option maxRecDepth 100000 in
theorem then2 (x y : Sight) (b1 p1 b2 p2 c1 c2 p3 : Nat) (W : World) (HE : Env2 W b1 p1 b2 p2 c1 c2 p3) :
    Calls Try.prog 38 #[gV x, gV y, .pointer (some ⟨c1, 0, none⟩), .pointer (some ⟨c2, 0, none⟩)] W fun e w' => e = .returned (iV (orI (orI (Lib.compareInt x.o y.o) (Lib.compareInt x.lo y.lo)) (Lib.compareInt x.hi y.hi))) ∧ Gr W w' := by
  have HS := Lib.hid (PT.start (x := x) (y := y) HE.e5 HE.e6 39)
  have gs0 := Lib.hid HS.out.1
  have C1 := Lib.hid (show ∀ w', Gr W w' → Calls Try.prog 38 #[gV x, gV y, .pointer (some ⟨b1, 0, none⟩), .pointer (some ⟨b2, 0, none⟩)] w' (fun e w2 => e = .returned (iV (orI (Lib.compareInt x.o y.o) (Lib.compareInt x.lo y.lo))) ∧ Gr w' w2) from fun w' g => then1 x y b1 p1 b2 p2 w' (HE.gr g).env)
  have C2 := Lib.hid (show ∀ w', Gr W w' → Calls Try.prog 36 #[gV x, gV y, .pointer (some ⟨p3, 0, none⟩)] w' (fun e w2 => e = .returned (iV (Lib.compareInt x.hi y.hi)) ∧ Gr w' w2) from fun w' g => by33 x y p3 w' (HE.gr g).e7 (cell_lt (HE.gr g).e7))
  clear HE
  generalize (orI (Lib.compareInt x.o y.o) (Lib.compareInt x.lo y.lo)) = r1 at C1 ⊢
  generalize (Lib.compareInt x.hi y.hi) = r2 at C2 ⊢
  go_enter Try.func38, Try.ntmps38
  go_wp2
  go_region_held3 (fun w' => Gr W w' ∧ (c1 < W.heap.size ∧ c2 < W.heap.size) ∧ W.heap.size + 1 < w'.heap.size ∧ w'.cell? ⟨c1, 0, none⟩ = some (.func (.func 38) #[] #[.pointer (some ⟨b1, 0, none⟩), .pointer (some ⟨b2, 0, none⟩)]) ∧ w'.cell? ⟨c2, 0, none⟩ = some (.func (.func 36) #[] #[.pointer (some ⟨p3, 0, none⟩)]) ∧ w'.cell? ⟨W.heap.size, 0, none⟩ = some (iV x.o) ∧ w'.cell? ⟨W.heap.size, 1, none⟩ = some (iV x.lo) ∧ w'.cell? ⟨W.heap.size, 2, none⟩ = some (iV x.hi) ∧ w'.cell? ⟨W.heap.size + 1, 0, none⟩ = some (iV y.o) ∧ w'.cell? ⟨W.heap.size + 1, 1, none⟩ = some (iV y.lo) ∧ w'.cell? ⟨W.heap.size + 1, 2, none⟩ = some (iV y.hi))
    (first | exact PT.call hs2.out (Gr.alloc _ _) | exact hs2.out | exact hs1.out | exact HS.out)
    (first
      | (go_at_call 38; (with_reducible refine Calls.mono (C1.out _ gs1.out) ?_); rintro e w1 ⟨rfl, hg1⟩; first | (have hs2 := Lib.hid (PT.call hs1.out hg1); clear hg1; have gs2 := Lib.hid hs2.out.1) | (have hs1 := Lib.hid (PT.call HS.out hg1); clear hg1; have gs1 := Lib.hid hs1.out.1))
      | (go_at_call 38; (with_reducible refine Calls.mono (C1.out _ gs0.out) ?_); rintro e w1 ⟨rfl, hg1⟩; first | (have hs2 := Lib.hid (PT.call hs1.out hg1); clear hg1; have gs2 := Lib.hid hs2.out.1) | (have hs1 := Lib.hid (PT.call HS.out hg1); clear hg1; have gs1 := Lib.hid hs1.out.1))
      | (go_at_call 36; (with_reducible refine Calls.mono (C2.out _ gs1.out) ?_); rintro e w1 ⟨rfl, hg1⟩; first | (have hs2 := Lib.hid (PT.call hs1.out hg1); clear hg1; have gs2 := Lib.hid hs2.out.1) | (have hs1 := Lib.hid (PT.call HS.out hg1); clear hg1; have gs1 := Lib.hid hs1.out.1))
      | (go_at_call 36; (with_reducible refine Calls.mono (C2.out _ gs0.out) ?_); rintro e w1 ⟨rfl, hg1⟩; first | (have hs2 := Lib.hid (PT.call hs1.out hg1); clear hg1; have gs2 := Lib.hid hs2.out.1) | (have hs1 := Lib.hid (PT.call HS.out hg1); clear hg1; have gs1 := Lib.hid hs1.out.1))
      | (go_at_call 39; refine (or_any r1 r2 _ _ _ (Rd.new _ _ _)).mono ?_; rintro e w1 ⟨rfl, rfl⟩))
  all_goals
    go_wp2
    go_ret
    exact ⟨rfl, hs2.out.1.trans (Gr.alloc _ _)⟩

end Go.Proofs.Ytpmogdddngbneaa
