/-
  The walks over the law's examples. What the examples come to, in plain Lean. The walk over the law's head: fixed examples. The walk over the law's head: fixed examples.
-/
import Derived.Test.YtldkmljjmnaefaaGreatDoorPk
import Derived.Deep.QuietTactic
import Derived.BigQuiet
namespace Go.Proofs.YtldkmljjmnaefaaGreatDoor
open Go.RowKit

def exCal (wA : Option Addr) : Cal := ⟨0, [true, true, true, true, true, false, false], wA, 7, [], none, 0⟩
def exOff (x : UInt8) : Off := ⟨[x], 0, 0, 8, 2, 10, [], none, 0⟩
/-- The network of the chapter's examples. -/
def exNet (wA a1 a2 a3 a4 a5 a6 : Option Addr) : Net :=
  { cals := [exCal wA], calA := a1, calC := 1, names := [[99]], namA := a2, namC := 1, ops := [[112]], opA := a3, opC := 1, offs := [exOff 97, exOff 98], offA := a4, offC := 2, lins := [⟨[120], 0, 1, 1200, 300, 1⟩, ⟨[121], 1, 0, 600, 300, 1⟩], linA := a5, linC := 2, clss := [⟨[107], 1020, 720⟩], clsA := a6, clsC := 1 }
/-- Blocks laid one behind the other. -/
def allocs (w : World) : List Obj → World
  | [] => w
  | o :: os => allocs (w.alloc o) os
theorem allocs_below : ∀ (os : List Obj) (w : World), Below w.heap.size w (allocs w os)
  | [], _ => Below.refl _ _
  | o :: os, w => bt (ba w o) (allocs_below os (w.alloc o))
theorem allocs_get : ∀ (os : List Obj) (w : World) (i : Nat) (o : Obj), os[i]? = some o → (allocs w os).heap[w.heap.size + i]? = some o
  | [], _, _, _, h => by simp at h
  | o :: os, w, 0, x, h => by
    cases Option.some.inj h
    exact ((allocs_below os (w.alloc o)).block _ (by simp)).trans (heap_alloc_new w o)
  | o :: os, w, i + 1, x, h => by
    have := allocs_get os (w.alloc o) i x (by simpa using h)
    rw [World.size_alloc] at this
    rwa [show w.heap.size + (i + 1) = w.heap.size + 1 + i by omega]
theorem rd_block {w : World} {b : Nat} {cs : Array Value} {t : TypeId} {fr : Nat × Nat} (h : w.heap[b]? = some (.cells cs t fr)) : Rd w (some ⟨b, 0, none⟩) cs.toList :=
  .inr ⟨b, 0, rfl, block_lt h, fun i u hu => by rw [Nat.zero_add, cell_of_row _ _ _ _ _ _ h]; simpa using hu⟩
theorem i64_small {n : Int} (h1 : -1000000 ≤ n) (h2 : n ≤ 1000000) : I64 n := ⟨by omega, by omega⟩
set_option maxHeartbeats 4000000 in
set_option maxRecDepth 100000 in
theorem example_any (w : World) :
    Calls Tryz.prog 20 #[] w fun e w' => ∃ wA a1 a2 a3 a4 a5 a6, e = .returned (netV (exNet wA a1 a2 a3 a4 a5 a6)) ∧ NetIn w' (exNet wA a1 a2 a3 a4 a5 a6) ∧ Below w.heap.size w w' := by
  have hg := allocs_get [.cells #[.slice (some ⟨w.heap.size + 1 + 1 + 1 + 1 + 1, 0, none⟩) 1 1, .slice (some ⟨w.heap.size + 1 + 1 + 1 + 1 + 1 + 1, 0, none⟩) 1 1, .slice (some ⟨w.heap.size + 1 + 1 + 1 + 1 + 1 + 1 + 1, 0, none⟩) 1 1, .slice (some ⟨w.heap.size + 1 + 1 + 1 + 1 + 1 + 1 + 1 + 1, 0, none⟩) 2 2, .slice (some ⟨w.heap.size + 1 + 1 + 1 + 1 + 1 + 1 + 1 + 1 + 1, 0, none⟩) 2 2, .slice (some ⟨w.heap.size + 1 + 1 + 1 + 1 + 1 + 1 + 1 + 1 + 1 + 1, 0, none⟩) 1 1] 29, .cells #[oV true, oV true, oV true, oV true, oV true, oV false, oV false] 4, .cells #[iV 0, .slice (some ⟨w.heap.size + 1, 0, none⟩) 7 7, .slice none 0 0] 72, .cells #[sV [97], iV 0, iV 0, iV 8, iV 2, iV 10, .slice none 0 0] 49, .cells #[sV [98], iV 0, iV 0, iV 8, iV 2, iV 10, .slice none 0 0] 49, .cells #[iV 0, .slice (some ⟨w.heap.size + 1, 0, none⟩) 7 7, .slice none 0 0] 72, .cells #[sV [99]] 9, .cells #[sV [112]] 100, .cells #[sV [97], iV 0, iV 0, iV 8, iV 2, iV 10, .slice none 0 0, sV [98], iV 0, iV 0, iV 8, iV 2, iV 10, .slice none 0 0] 49, .cells #[sV [120], iV 0, iV 1, iV 1200, iV 300, iV 1, sV [121], iV 1, iV 0, iV 600, iV 300, iV 1] 59, .cells #[sV [107], iV 1020, iV 720] 54] w
  have HG := Lib.hid hg; clear hg
  have hb := allocs_below [.cells #[.slice (some ⟨w.heap.size + 1 + 1 + 1 + 1 + 1, 0, none⟩) 1 1, .slice (some ⟨w.heap.size + 1 + 1 + 1 + 1 + 1 + 1, 0, none⟩) 1 1, .slice (some ⟨w.heap.size + 1 + 1 + 1 + 1 + 1 + 1 + 1, 0, none⟩) 1 1, .slice (some ⟨w.heap.size + 1 + 1 + 1 + 1 + 1 + 1 + 1 + 1, 0, none⟩) 2 2, .slice (some ⟨w.heap.size + 1 + 1 + 1 + 1 + 1 + 1 + 1 + 1 + 1, 0, none⟩) 2 2, .slice (some ⟨w.heap.size + 1 + 1 + 1 + 1 + 1 + 1 + 1 + 1 + 1 + 1, 0, none⟩) 1 1] 29, .cells #[oV true, oV true, oV true, oV true, oV true, oV false, oV false] 4, .cells #[iV 0, .slice (some ⟨w.heap.size + 1, 0, none⟩) 7 7, .slice none 0 0] 72, .cells #[sV [97], iV 0, iV 0, iV 8, iV 2, iV 10, .slice none 0 0] 49, .cells #[sV [98], iV 0, iV 0, iV 8, iV 2, iV 10, .slice none 0 0] 49, .cells #[iV 0, .slice (some ⟨w.heap.size + 1, 0, none⟩) 7 7, .slice none 0 0] 72, .cells #[sV [99]] 9, .cells #[sV [112]] 100, .cells #[sV [97], iV 0, iV 0, iV 8, iV 2, iV 10, .slice none 0 0, sV [98], iV 0, iV 0, iV 8, iV 2, iV 10, .slice none 0 0] 49, .cells #[sV [120], iV 0, iV 1, iV 1200, iV 300, iV 1, sV [121], iV 1, iV 0, iV 600, iV 300, iV 1] 59, .cells #[sV [107], iV 1020, iV 720] 54] w
  have HB := Lib.hid hb; clear hb
  go_enter Tryz.func20, Tryz.ntmps20
  go_wp2
  change bodyPost _ _ _ _ _ (allocs w [.cells #[.slice (some ⟨w.heap.size + 1 + 1 + 1 + 1 + 1, 0, none⟩) 1 1, .slice (some ⟨w.heap.size + 1 + 1 + 1 + 1 + 1 + 1, 0, none⟩) 1 1, .slice (some ⟨w.heap.size + 1 + 1 + 1 + 1 + 1 + 1 + 1, 0, none⟩) 1 1, .slice (some ⟨w.heap.size + 1 + 1 + 1 + 1 + 1 + 1 + 1 + 1, 0, none⟩) 2 2, .slice (some ⟨w.heap.size + 1 + 1 + 1 + 1 + 1 + 1 + 1 + 1 + 1, 0, none⟩) 2 2, .slice (some ⟨w.heap.size + 1 + 1 + 1 + 1 + 1 + 1 + 1 + 1 + 1 + 1, 0, none⟩) 1 1] 29, .cells #[oV true, oV true, oV true, oV true, oV true, oV false, oV false] 4, .cells #[iV 0, .slice (some ⟨w.heap.size + 1, 0, none⟩) 7 7, .slice none 0 0] 72, .cells #[sV [97], iV 0, iV 0, iV 8, iV 2, iV 10, .slice none 0 0] 49, .cells #[sV [98], iV 0, iV 0, iV 8, iV 2, iV 10, .slice none 0 0] 49, .cells #[iV 0, .slice (some ⟨w.heap.size + 1, 0, none⟩) 7 7, .slice none 0 0] 72, .cells #[sV [99]] 9, .cells #[sV [112]] 100, .cells #[sV [97], iV 0, iV 0, iV 8, iV 2, iV 10, .slice none 0 0, sV [98], iV 0, iV 0, iV 8, iV 2, iV 10, .slice none 0 0] 49, .cells #[sV [120], iV 0, iV 1, iV 1200, iV 300, iV 1, sV [121], iV 1, iV 0, iV 600, iV 300, iV 1] 59, .cells #[sV [107], iV 1020, iV 720] 54])
  generalize (allocs w [.cells #[.slice (some ⟨w.heap.size + 1 + 1 + 1 + 1 + 1, 0, none⟩) 1 1, .slice (some ⟨w.heap.size + 1 + 1 + 1 + 1 + 1 + 1, 0, none⟩) 1 1, .slice (some ⟨w.heap.size + 1 + 1 + 1 + 1 + 1 + 1 + 1, 0, none⟩) 1 1, .slice (some ⟨w.heap.size + 1 + 1 + 1 + 1 + 1 + 1 + 1 + 1, 0, none⟩) 2 2, .slice (some ⟨w.heap.size + 1 + 1 + 1 + 1 + 1 + 1 + 1 + 1 + 1, 0, none⟩) 2 2, .slice (some ⟨w.heap.size + 1 + 1 + 1 + 1 + 1 + 1 + 1 + 1 + 1 + 1, 0, none⟩) 1 1] 29, .cells #[oV true, oV true, oV true, oV true, oV true, oV false, oV false] 4, .cells #[iV 0, .slice (some ⟨w.heap.size + 1, 0, none⟩) 7 7, .slice none 0 0] 72, .cells #[sV [97], iV 0, iV 0, iV 8, iV 2, iV 10, .slice none 0 0] 49, .cells #[sV [98], iV 0, iV 0, iV 8, iV 2, iV 10, .slice none 0 0] 49, .cells #[iV 0, .slice (some ⟨w.heap.size + 1, 0, none⟩) 7 7, .slice none 0 0] 72, .cells #[sV [99]] 9, .cells #[sV [112]] 100, .cells #[sV [97], iV 0, iV 0, iV 8, iV 2, iV 10, .slice none 0 0, sV [98], iV 0, iV 0, iV 8, iV 2, iV 10, .slice none 0 0] 49, .cells #[sV [120], iV 0, iV 1, iV 1200, iV 300, iV 1, sV [121], iV 1, iV 0, iV 600, iV 300, iV 1] 59, .cells #[sV [107], iV 1020, iV 720] 54]) = W at *
  have h0 := HG.out 0 _ rfl
  have h1 := HG.out 1 _ rfl
  have h5 := HG.out 5 _ rfl
  have h6 := HG.out 6 _ rfl
  have h7 := HG.out 7 _ rfl
  have h8 := HG.out 8 _ rfl
  have h9 := HG.out 9 _ rfl
  have h10 := HG.out 10 _ rfl
  refine bodyPost_ret (v := netV (exNet (some ⟨w.heap.size + 1, 0, none⟩) (some ⟨w.heap.size + 1 + 1 + 1 + 1 + 1, 0, none⟩) (some ⟨w.heap.size + 1 + 1 + 1 + 1 + 1 + 1, 0, none⟩) (some ⟨w.heap.size + 1 + 1 + 1 + 1 + 1 + 1 + 1, 0, none⟩) (some ⟨w.heap.size + 1 + 1 + 1 + 1 + 1 + 1 + 1 + 1, 0, none⟩) (some ⟨w.heap.size + 1 + 1 + 1 + 1 + 1 + 1 + 1 + 1 + 1, 0, none⟩) (some ⟨w.heap.size + 1 + 1 + 1 + 1 + 1 + 1 + 1 + 1 + 1 + 1, 0, none⟩))) (results_cell_row rfl _ _ w.heap.size 29 _ (0, 0) _ (by rfl) h0 Tryz.underlying29 (by rfl) (by kernel_rfl)) rfl ⟨_, _, _, _, _, _, _, rfl, ?_, HB.out⟩
  have g5 := rd_block h5
  have g6 := rd_block h6
  have g7 := rd_block h7
  have g8 := rd_block h8
  have g9 := rd_block h9
  have g10 := rd_block h10
  refine ⟨g5, fun c hc => ?_, g6, fun s hs => ?_, g7, fun s hs => ?_, g8, fun o ho => ?_, g9, fun l hl => ?_, g10, fun k hk => ?_, ?_⟩
  · obtain rfl : c = exCal _ := by simpa [exNet] using hc
    exact ⟨show I64 0 from i64_small (by decide) (by decide), rd_block h1, Rd.nil _ _, (fun n hn => by cases hn), show 7 ≤ maxLen by decide, show 0 ≤ maxLen by decide⟩
  · obtain rfl : s = [99] := by simpa [exNet] using hs
    decide
  · obtain rfl : s = [112] := by simpa [exNet] using hs
    decide
  · have : o = exOff 97 ∨ o = exOff 98 := by simpa [exNet] using ho
    rcases this with rfl | rfl
    · exact ⟨⟨by decide, i64_small (by decide) (by decide), i64_small (by decide) (by decide), i64_small (by decide) (by decide), i64_small (by decide) (by decide), i64_small (by decide) (by decide)⟩, Rd.nil _ _, (fun s hs => by cases hs), by decide⟩
    · exact ⟨⟨by decide, i64_small (by decide) (by decide), i64_small (by decide) (by decide), i64_small (by decide) (by decide), i64_small (by decide) (by decide), i64_small (by decide) (by decide)⟩, Rd.nil _ _, (fun s hs => by cases hs), by decide⟩
  · have : l = ⟨[120], 0, 1, 1200, 300, 1⟩ ∨ l = ⟨[121], 1, 0, 600, 300, 1⟩ := by simpa [exNet] using hl
    rcases this with rfl | rfl
    · exact ⟨by decide, i64_small (by decide) (by decide), i64_small (by decide) (by decide), i64_small (by decide) (by decide), i64_small (by decide) (by decide), i64_small (by decide) (by decide)⟩
    · exact ⟨by decide, i64_small (by decide) (by decide), i64_small (by decide) (by decide), i64_small (by decide) (by decide), i64_small (by decide) (by decide), i64_small (by decide) (by decide)⟩
  · obtain rfl : k = ⟨[107], 1020, 720⟩ := by simpa [exNet] using hk
    exact ⟨by decide, i64_small (by decide) (by decide), i64_small (by decide) (by decide)⟩
  · exact ⟨show 1 ≤ maxLen by decide, show 1 ≤ maxLen by decide, show 1 ≤ maxLen by decide, show 2 ≤ maxLen by decide, show 2 ≤ maxLen by decide, show 1 ≤ maxLen by decide⟩
/-- The table of lines of the examples. -/
def exNx (A B : Option Addr) (x y z u : Int) : List NsC := [⟨[x, y], A, 2⟩, ⟨[z, u], B, 2⟩]
set_option maxHeartbeats 4000000 in
theorem nexttab_any (w : World) :
    Calls Tryz.prog 21 #[] w fun e w' => ∃ A B C, e = .returned (.slice C 2 2) ∧ Tab w' C (exNx A B (-1) 0 1 (-1)) ∧ Below w.heap.size w w' := by
  have hg := allocs_get [.cells #[iV (-1), iV 0] 3, .cells #[iV 1, iV (-1)] 3, .cells #[.slice (some ⟨w.heap.size, 0, none⟩) 2 2, .slice (some ⟨w.heap.size + 1, 0, none⟩) 2 2] 46] w
  have HG := Lib.hid hg; clear hg
  have hb := allocs_below [.cells #[iV (-1), iV 0] 3, .cells #[iV 1, iV (-1)] 3, .cells #[.slice (some ⟨w.heap.size, 0, none⟩) 2 2, .slice (some ⟨w.heap.size + 1, 0, none⟩) 2 2] 46] w
  have HB := Lib.hid hb; clear hb
  go_enter Tryz.func21, Tryz.ntmps21
  go_wp2
  change bodyPost _ _ _ _ _ (allocs w [.cells #[iV (-1), iV 0] 3, .cells #[iV 1, iV (-1)] 3, .cells #[.slice (some ⟨w.heap.size, 0, none⟩) 2 2, .slice (some ⟨w.heap.size + 1, 0, none⟩) 2 2] 46])
  generalize (allocs w [.cells #[iV (-1), iV 0] 3, .cells #[iV 1, iV (-1)] 3, .cells #[.slice (some ⟨w.heap.size, 0, none⟩) 2 2, .slice (some ⟨w.heap.size + 1, 0, none⟩) 2 2] 46]) = W at *
  have h0 := HG.out 0 _ rfl
  have h1 := HG.out 1 _ rfl
  have h2 := HG.out 2 _ rfl
  go_ret
  refine ⟨some ⟨w.heap.size, 0, none⟩, some ⟨w.heap.size + 1, 0, none⟩, some ⟨w.heap.size + 1 + 1, 0, none⟩, rfl, ⟨rd_block h2, fun r hr => ?_⟩, HB.out⟩
  have : r = ⟨[-1, 0], some ⟨w.heap.size, 0, none⟩, 2⟩ ∨ r = ⟨[1, -1], some ⟨w.heap.size + 1, 0, none⟩, 2⟩ := by simpa [exNx] using hr
  rcases this with rfl | rfl
  · refine ⟨rd_block h0, fun n hn => ?_, show 2 ≤ maxLen by decide⟩
    have : n = -1 ∨ n = 0 := by simpa using hn
    rcases this with rfl | rfl <;> exact i64_small (by decide) (by decide)
  · refine ⟨rd_block h1, fun n hn => ?_, show 2 ≤ maxLen by decide⟩
    have : n = 1 ∨ n = -1 := by simpa using hn
    rcases this with rfl | rfl <;> exact i64_small (by decide) (by decide)
end Go.Proofs.YtldkmljjmnaefaaGreatDoor
namespace Go.Proofs.YtldkmljjmnaefaaGreatDoor
open Go.RowKit

section
variable (wA a1 a2 a3 a4 a5 a6 A B : Option Addr)
theorem ok_one {α : Type} {nm : Nat → List UInt8} {gd : α → Bool} {x : α} (h1 : nameB (nm 0) = true) (h2 : gd x = true) : ∀ i < [x].length, okAt nm gd [x] i := by
  intro i hi
  obtain rfl : i = 0 := by simpa using hi
  exact ⟨h1, rfl, fun y hy => by cases hy; exact h2⟩
theorem ok_two {α : Type} {nm : Nat → List UInt8} {gd : α → Bool} {x y : α} (h1 : nameB (nm 0) = true) (h2 : gd x = true) (h3 : nameB (nm 1) = true) (h4 : gd y = true) (h5 : freshB nm 1 = true) : ∀ i < [x, y].length, okAt nm gd [x, y] i := by
  intro i hi
  have : i = 0 ∨ i = 1 := by simp at hi; omega
  rcases this with rfl | rfl
  · exact ⟨h1, rfl, fun z hz => by cases hz; exact h2⟩
  · exact ⟨h3, h5, fun z hz => by cases hz; exact h4⟩
theorem ex_cons : Cons (exNet wA a1 a2 a3 a4 a5 a6) :=
  ⟨rfl, ⟨by show 1 ≤ 6; decide, ok_one (by kernel_rfl) (by kernel_rfl)⟩, ⟨by show 1 ≤ 6; decide, ok_one (by kernel_rfl) (by kernel_rfl)⟩,
   ⟨by show 2 ≤ 12; decide, ok_two (by kernel_rfl) (by kernel_rfl) (by kernel_rfl) (by kernel_rfl) (by kernel_rfl)⟩,
   ⟨by show 2 ≤ 40; decide, ok_two (by kernel_rfl) (by kernel_rfl) (by kernel_rfl) (by kernel_rfl) (by kernel_rfl)⟩,
   ⟨by show 1 ≤ 4; decide, ok_one (by kernel_rfl) (by kernel_rfl)⟩⟩
theorem ex_sound : Sound (exNet wA a1 a2 a3 a4 a5 a6) := by
  refine ⟨ex_cons wA a1 a2 a3 a4 a5 a6, fun b hb a ha => ?_⟩
  have hE := edges_in (ex_cons wA a1 a2 a3 a4 a5 a6).lins
  have hb2 : b < 2 := hb
  have ha2 : a < 2 := ha
  have key : ∃ L, Wlk (edgesOf (exNet wA a1 a2 a3 a4 a5 a6)) a b L := by
    have e1 : (0, 1, (300 : Int)) ∈ edgesOf (exNet wA a1 a2 a3 a4 a5 a6) := by simp [edgesOf, exNet]
    have e2 : (1, 0, (300 : Int)) ∈ edgesOf (exNet wA a1 a2 a3 a4 a5 a6) := by simp [edgesOf, exNet]
    rcases (by omega : a = 0 ∨ a = 1) with rfl | rfl
    · rcases (by omega : b = 0 ∨ b = 1) with rfl | rfl
      · exact ⟨_, .nil 0⟩
      · exact ⟨_, .cons e1 (.nil 1)⟩
    · rcases (by omega : b = 0 ∨ b = 1) with rfl | rfl
      · exact ⟨_, .cons e2 (.nil 0)⟩
      · exact ⟨_, .nil 1⟩
  obtain ⟨L, hL⟩ := key
  exact (dist_le (by omega) hE (by omega) (by omega) hL).1
theorem ex_formed {x y z u : Int} (hx : x = -1 ∨ x = 0) (hy : y = -1 ∨ y = 0) (hz : z = -1 ∨ z = 1) (hu : u = -1 ∨ u = 1) : Formed (exNet wA a1 a2 a3 a4 a5 a6) (exNx A B x y z u) := by
  refine ⟨rfl, fun o ho => ?_⟩
  have ho2 : o < 2 := ho
  rcases (by omega : o = 0 ∨ o = 1) with rfl | rfl
  · refine ⟨_, rfl, rfl, fun l hl => ?_⟩
    have h2 : l = -1 ∨ l = 0 := by
      rcases List.mem_cons.1 hl with rfl | hl
      · exact hx
      · rw [List.mem_singleton.1 hl]; exact hy
    rcases h2 with rfl | rfl
    · exact .inl rfl
    · exact .inr ⟨by omega, by show (0 : Int) < 2; omega, rfl⟩
  · refine ⟨_, rfl, rfl, fun l hl => ?_⟩
    have h2 : l = -1 ∨ l = 1 := by
      rcases List.mem_cons.1 hl with rfl | hl
      · exact hz
      · rw [List.mem_singleton.1 hl]; exact hu
    rcases h2 with rfl | rfl
    · exact .inl rfl
    · exact .inr ⟨by omega, by show (1 : Int) < 2; omega, rfl⟩
theorem inB_lit {i : Int} {m : Nat} (h : 0 ≤ i) (h2 : i < (m : Int)) : inB i m = true := inB_iff.2 ⟨h, h2⟩
theorem ex_way {t : Int} (ht : tOk t = true) {x y z u : Int} (hx : x = -1 ∨ x = 0) (hy : y = -1 ∨ y = 0) (hz : z = -1 ∨ z = 1) (hu : u = -1 ∨ u = 1) : wayTop (exNet wA a1 a2 a3 a4 a5 a6) (exNx A B x y z u) 0 1 t = wayR (exNet wA a1 a2 a3 a4 a5 a6) (exNx A B x y z u) 1 19 0 t :=
  if_pos ⟨by kernel_rfl, by kernel_rfl, ht, ex_sound wA a1 a2 a3 a4 a5 a6, ex_formed wA a1 a2 a3 a4 a5 a6 A B hx hy hz hu⟩
theorem ex_w1 : wayTop (exNet wA a1 a2 a3 a4 a5 a6) (exNx A B (-1) 0 1 (-1)) 0 1 1020 = (0, [⟨0, 1020, 1200, 0⟩, ⟨1, 1500, -1, -1⟩]) := by
  rw [ex_way wA a1 a2 a3 a4 a5 a6 A B (by kernel_rfl) (.inl rfl) (.inr rfl) (.inr rfl) (.inl rfl)]
  kernel_rfl
theorem ex_w2 : wayTop (exNet wA a1 a2 a3 a4 a5 a6) (exNx A B (-1) 0 1 (-1)) 0 1 1190 = (0, [⟨0, 1190, 2640, 0⟩, ⟨1, 2940, -1, -1⟩]) := by
  rw [ex_way wA a1 a2 a3 a4 a5 a6 A B (by kernel_rfl) (.inl rfl) (.inr rfl) (.inr rfl) (.inl rfl)]
  kernel_rfl
theorem ex_w3 : wayTop (exNet wA a1 a2 a3 a4 a5 a6) (exNx A B (-1) (-1) (-1) (-1)) 0 1 0 = (170, []) := by
  rw [ex_way wA a1 a2 a3 a4 a5 a6 A B (by kernel_rfl) (.inl rfl) (.inl rfl) (.inl rfl) (.inl rfl)]
  kernel_rfl
theorem ex_del : deliveryTop (exNet wA a1 a2 a3 a4 a5 a6) 0 1 1500 = (2160, 0) := by
  have h : deliveryTop (exNet wA a1 a2 a3 a4 a5 a6) 0 1 1500 = deliveryR (calAt (exNet wA a1 a2 a3 a4 a5 a6) 1) (offAt (exNet wA a1 a2 a3 a4 a5 a6) 1) (clsAt (exNet wA a1 a2 a3 a4 a5 a6) 0) 1500 :=
    if_pos ⟨by kernel_rfl, by kernel_rfl, by kernel_rfl, ex_sound wA a1 a2 a3 a4 a5 a6⟩
  exact h.trans (by kernel_rfl)
theorem ex_cut : cutoffTop (exNet wA a1 a2 a3 a4 a5 a6) 0 0 1021 = (2460, 0) := by
  have h : cutoffTop (exNet wA a1 a2 a3 a4 a5 a6) 0 0 1021 = firstR (calAt (exNet wA a1 a2 a3 a4 a5 a6) 0) (clsAt (exNet wA a1 a2 a3 a4 a5 a6) 0).cut 1021 :=
    if_pos ⟨by kernel_rfl, by kernel_rfl, by kernel_rfl, ex_sound wA a1 a2 a3 a4 a5 a6⟩
  exact h.trans (by kernel_rfl)
theorem ex_ready : readyTop (exNet wA a1 a2 a3 a4 a5 a6) 0 1020 = 1040 := by
  have h : readyTop (exNet wA a1 a2 a3 a4 a5 a6) 0 1020 = readyR (offAt (exNet wA a1 a2 a3 a4 a5 a6) 0) 1020 :=
    if_pos ⟨by kernel_rfl, by kernel_rfl, ex_sound wA a1 a2 a3 a4 a5 a6⟩
  exact h.trans (by kernel_rfl)
theorem ex_most : mostR (exNet wA a1 a2 a3 a4 a5 a6) (exNx A B (-1) 0 1 (-1)) 0 0 1 0 7 = 1 := by kernel_rfl
theorem ex_first1 : firstR (calAt (exNet wA a1 a2 a3 a4 a5 a6) 0) (clsAt (exNet wA a1 a2 a3 a4 a5 a6) 0).cut 500 = (1020, 0) := by kernel_rfl
theorem ex_add1 : add1R (calAt (exNet wA a1 a2 a3 a4 a5 a6) 1) (dayOf (calAt (exNet wA a1 a2 a3 a4 a5 a6) 1) 1020) = (1, 0) := by kernel_rfl
theorem ex_time1 : timeOf (calAt (exNet wA a1 a2 a3 a4 a5 a6) 1) 1 (clsAt (exNet wA a1 a2 a3 a4 a5 a6) 0).deliver = 2160 := by kernel_rfl
theorem ex_first2 : firstR (calAt (exNet wA a1 a2 a3 a4 a5 a6) 0) (clsAt (exNet wA a1 a2 a3 a4 a5 a6) 0).cut 6781 = (11100, 0) := by kernel_rfl
theorem ex_add2 : add1R (calAt (exNet wA a1 a2 a3 a4 a5 a6) 1) (dayOf (calAt (exNet wA a1 a2 a3 a4 a5 a6) 1) 11100) = (8, 0) := by kernel_rfl
theorem ex_time2 : timeOf (calAt (exNet wA a1 a2 a3 a4 a5 a6) 1) 8 (clsAt (exNet wA a1 a2 a3 a4 a5 a6) 0).deliver = 12240 := by kernel_rfl
end
end Go.Proofs.YtldkmljjmnaefaaGreatDoor
namespace Go.Proofs.YtldkmljjmnaefaaGreatDoor
open Go.RowKit

set_option maxHeartbeats 4000000 in
set_option maxRecDepth 100000 in
theorem same_refl (l : List St) (A B : Option Addr) (c c' : Nat) (w : World) (hA : Rd w A (l.flatMap encSt)) (hB : Rd w B (l.flatMap encSt)) (hl : l.length ≤ 1000) :
    Calls Tryz.prog 23 #[.slice A l.length c, .slice B l.length c'] w fun e w' => e = .returned (.bool true) ∧ Below w.heap.size w w' := by
  have HA := Lib.hid hA; clear hA
  have HB := Lib.hid hB; clear hB
  have e1 : ((l.length : Int) != (l.length : Int)) = false := by simp
  go_enter Tryz.func23, Tryz.ntmps23
  go_wp2
  go_loopw [5] (fun i wr => ∃ k q : Nat, k ≤ l.length ∧ i = iV k ∧ wr = w.drewN q) (fun i _ => l.length + 1 - (intOf i).toNat)
  case atStart => exact ⟨0, 0, by omega, rfl, rfl⟩
  case round =>
    obtain ⟨k, q, hk, rfl, rfl⟩ := hrel
    have k0 : (0 : Int) ≤ (k : Int) := by omega
    by_cases hlt : k < l.length
    · have k1 : (k : Int) < (l.length : Int) := by omega
      have hx : l[k]? = some l[k] := List.getElem?_eq_getElem _
      obtain ⟨-, ab, ao, hAA, -, ha0, hac⟩ := elem_at encSt_len HA.out hx (by omega)
      obtain ⟨-, bb, bo, hBB, -, hb0, hbc⟩ := elem_at encSt_len HB.out hx (by omega)
      generalize l[k] = x at *
      have x0 : w.cell? ⟨ab, ao + k * 4, none⟩ = some (iV x.office) := ha0 _ rfl
      have x1 : w.cell? ⟨ab, ao + k * 4 + 1, none⟩ = some (iV x.arrive) := hac 1 _ rfl
      have x2 : w.cell? ⟨ab, ao + k * 4 + 2, none⟩ = some (iV x.depart) := hac 2 _ rfl
      have x3 : w.cell? ⟨ab, ao + k * 4 + 3, none⟩ = some (iV x.line) := hac 3 _ rfl
      have y0 : w.cell? ⟨bb, bo + k * 4, none⟩ = some (iV x.office) := hb0 _ rfl
      have y1 : w.cell? ⟨bb, bo + k * 4 + 1, none⟩ = some (iV x.arrive) := hbc 1 _ rfl
      have y2 : w.cell? ⟨bb, bo + k * 4 + 2, none⟩ = some (iV x.depart) := hbc 2 _ rfl
      have y3 : w.cell? ⟨bb, bo + k * 4 + 3, none⟩ = some (iV x.line) := hbc 3 _ rfl
      have HAA := Lib.hid hAA
      have HBB := Lib.hid hBB
      clear ha0 hac hb0 hbc hx
      subst hAA
      subst hBB
      go_wp2
      go_quiet (fail)
      go_wp2
      go_roundw
      case rel => exact ⟨k + 1, _, by omega, by go_num, rfl⟩
      case measure => simp [intOf]; omega
    · have k1 : ¬ (k : Int) < (l.length : Int) := by omega
      go_wp2
      go_ret
      exact ⟨rfl, below_drewN (Below.refl _ _) _⟩
/-- What the head has in hand. -/
structure HdS (w W : World) (Y : Nat) (n : Net) : Prop where
  bel : Below w.heap.size w W
  box : W.heap[Y]? = some (netO n)
  net : NetIn W n
  kw : KW W
theorem HdS.below {w W W' : World} {Y : Nat} {n : Net} (h : HdS w W Y n) (hb : Below W.heap.size W W') : HdS w W' Y n := ⟨bt h.bel hb, (hb.block _ (block_lt h.box)).trans h.box, h.net.below hb, h.kw.below hb⟩
theorem HdS.cells {w W : World} {Y : Nat} {n : Net} (h : HdS w W Y n) : W.cell? ⟨Y, 0, none⟩ = some (.slice n.calA n.cals.length n.calC) ∧ W.cell? ⟨Y, 1, none⟩ = some (.slice n.namA n.names.length n.namC) ∧ W.cell? ⟨Y, 2, none⟩ = some (.slice n.opA n.ops.length n.opC) ∧ W.cell? ⟨Y, 3, none⟩ = some (.slice n.offA n.offs.length n.offC) ∧ W.cell? ⟨Y, 4, none⟩ = some (.slice n.linA n.lins.length n.linC) ∧ W.cell? ⟨Y, 5, none⟩ = some (.slice n.clsA n.clss.length n.clsC) :=
  ⟨cell_of_row _ _ 0 _ _ _ h.box, cell_of_row _ _ 1 _ _ _ h.box, cell_of_row _ _ 2 _ _ _ h.box, cell_of_row _ _ 3 _ _ _ h.box, cell_of_row _ _ 4 _ _ _ h.box, cell_of_row _ _ 5 _ _ _ h.box⟩
section
variable (wA a1 a2 a3 a4 a5 a6 A B C : Option Addr) (W : World)
def st2 (t d a : Int) : List St := [⟨0, t, d, 0⟩, ⟨1, a, -1, -1⟩]
theorem exc_way1 (hn : NetIn W (exNet wA a1 a2 a3 a4 a5 a6)) (hT : Tab W C (exNx A B (-1) 0 1 (-1))) (hk : KW W) :
    Calls Tryz.prog 10 #[netV (exNet wA a1 a2 a3 a4 a5 a6), .slice C 2 2, iV 0, iV 1, iV 1020] W fun e w' => ∃ D c, e = .returned (.tuple #[.slice D 2 c, iV 0]) ∧ Rd w' D ((st2 1020 1200 1500).flatMap encSt) ∧ Below W.heap.size W w' := by
  refine (way_any (exNet wA a1 a2 a3 a4 a5 a6) C 2 (exNx A B (-1) 0 1 (-1)) 0 1 1020 W hn hT (show 2 ≤ maxLen by decide) hk).mono ?_
  rintro e w' ⟨hb, D, c, rfl, hr⟩
  rw [ex_w1] at hr ⊢
  exact ⟨D, c, rfl, hr, hb⟩
theorem exc_way2 (hn : NetIn W (exNet wA a1 a2 a3 a4 a5 a6)) (hT : Tab W C (exNx A B (-1) 0 1 (-1))) (hk : KW W) :
    Calls Tryz.prog 10 #[netV (exNet wA a1 a2 a3 a4 a5 a6), .slice C 2 2, iV 0, iV 1, iV 1190] W fun e w' => ∃ D c, e = .returned (.tuple #[.slice D 2 c, iV 0]) ∧ Rd w' D ((st2 1190 2640 2940).flatMap encSt) ∧ Below W.heap.size W w' := by
  refine (way_any (exNet wA a1 a2 a3 a4 a5 a6) C 2 (exNx A B (-1) 0 1 (-1)) 0 1 1190 W hn hT (show 2 ≤ maxLen by decide) hk).mono ?_
  rintro e w' ⟨hb, D, c, rfl, hr⟩
  rw [ex_w2] at hr ⊢
  exact ⟨D, c, rfl, hr, hb⟩
theorem exc_way3 (hn : NetIn W (exNet wA a1 a2 a3 a4 a5 a6)) (hT : Tab W C (exNx A B (-1) (-1) (-1) (-1))) (hk : KW W) :
    Calls Tryz.prog 10 #[netV (exNet wA a1 a2 a3 a4 a5 a6), .slice C 2 2, iV 0, iV 1, iV 0] W fun e w' => ∃ D c, e = .returned (.tuple #[.slice D 0 c, iV 170]) ∧ Below W.heap.size W w' := by
  refine (way_any (exNet wA a1 a2 a3 a4 a5 a6) C 2 (exNx A B (-1) (-1) (-1) (-1)) 0 1 0 W hn hT (show 2 ≤ maxLen by decide) hk).mono ?_
  rintro e w' ⟨hb, D, c, rfl, hr⟩
  rw [ex_w3] at hr ⊢
  exact ⟨D, c, rfl, hb⟩
theorem exc_del (hn : NetIn W (exNet wA a1 a2 a3 a4 a5 a6)) (hk : KW W) :
    Calls Tryz.prog 11 #[netV (exNet wA a1 a2 a3 a4 a5 a6), iV 0, iV 1, iV 1500] W fun e w' => e = .returned (.tuple #[iV 2160, iV 0]) ∧ Below W.heap.size W w' := by
  have := deliverytop_any (exNet wA a1 a2 a3 a4 a5 a6) 0 1 1500 W hn hk
  rwa [ex_del] at this
theorem exc_cut (hn : NetIn W (exNet wA a1 a2 a3 a4 a5 a6)) (hk : KW W) :
    Calls Tryz.prog 12 #[netV (exNet wA a1 a2 a3 a4 a5 a6), iV 0, iV 0, iV 1021] W fun e w' => e = .returned (.tuple #[iV 2460, iV 0]) ∧ Below W.heap.size W w' := by
  have := cutofftop_any (exNet wA a1 a2 a3 a4 a5 a6) 0 0 1021 W hn hk
  rwa [ex_cut] at this
theorem exc_ready (hn : NetIn W (exNet wA a1 a2 a3 a4 a5 a6)) (hk : KW W) :
    Calls Tryz.prog 18 #[netV (exNet wA a1 a2 a3 a4 a5 a6), iV 0, iV 1020] W fun e w' => e = .returned (iV 1040) ∧ Below W.heap.size W w' := by
  have := readytop_any (exNet wA a1 a2 a3 a4 a5 a6) 0 1020 W hn hk
  rwa [ex_ready] at this
theorem exc_table (hn : NetIn W (exNet wA a1 a2 a3 a4 a5 a6)) (hT : Tab W C (exNx A B (-1) 0 1 (-1))) (hk : KW W) :
    Calls Tryz.prog 13 #[netV (exNet wA a1 a2 a3 a4 a5 a6), .slice C 2 2, iV 0, iV 7] W fun e w' => ∃ g, e = .returned (.slice (some ⟨g, 0, none⟩) 1 1) ∧ Tb3 w' g (exNet wA a1 a2 a3 a4 a5 a6) (fun k o d => mostR (exNet wA a1 a2 a3 a4 a5 a6) (exNx A B (-1) 0 1 (-1)) k o d 0 7) ∧ Below W.heap.size W w' := by
  refine (table_any (exNet wA a1 a2 a3 a4 a5 a6) C 2 (exNx A B (-1) 0 1 (-1)) 0 7 W hn hT (show 2 ≤ maxLen by decide) hk (ex_sound wA a1 a2 a3 a4 a5 a6) (ex_formed wA a1 a2 a3 a4 a5 a6 A B (.inl rfl) (.inr rfl) (.inr rfl) (.inl rfl)) (by omega) (by omega) (by omega) (by omega)).mono ?_
  rintro e w' ⟨g, xs, rfl, -, hg, hr, hl, hx, hb⟩
  exact ⟨g, rfl, ⟨xs, hr, hl, hg, hx⟩, hb⟩
theorem exc_due1 (g : Nat) (hn : NetIn W (exNet wA a1 a2 a3 a4 a5 a6)) (hT : Tb3 W g (exNet wA a1 a2 a3 a4 a5 a6) (fun k o d => mostR (exNet wA a1 a2 a3 a4 a5 a6) (exNx A B (-1) 0 1 (-1)) k o d 0 7)) (hk : KW W) :
    Calls Tryz.prog 22 #[netV (exNet wA a1 a2 a3 a4 a5 a6), .slice (some ⟨g, 0, none⟩) 1 1, postV [] 0 1 0 500] W fun e w' => e = .returned (.tuple #[iV 2160, iV 0]) ∧ Below W.heap.size W w' := by
  have := due_one (exNet wA a1 a2 a3 a4 a5 a6) g _ [] 0 1 0 500 1020 1 W hn hT hk (ex_sound wA a1 a2 a3 a4 a5 a6) (show 0 < 2 by omega) (show 1 < 2 by omega) (show 0 < 1 by omega) (by omega) (by omega) (ex_first1 wA a1 a2 a3 a4 a5 a6) (ex_most wA a1 a2 a3 a4 a5 a6 A B) (ex_add1 wA a1 a2 a3 a4 a5 a6)
  rwa [ex_time1] at this
theorem exc_due2 (g : Nat) (hn : NetIn W (exNet wA a1 a2 a3 a4 a5 a6)) (hT : Tb3 W g (exNet wA a1 a2 a3 a4 a5 a6) (fun k o d => mostR (exNet wA a1 a2 a3 a4 a5 a6) (exNx A B (-1) 0 1 (-1)) k o d 0 7)) (hk : KW W) :
    Calls Tryz.prog 22 #[netV (exNet wA a1 a2 a3 a4 a5 a6), .slice (some ⟨g, 0, none⟩) 1 1, postV [] 0 1 0 6781] W fun e w' => e = .returned (.tuple #[iV 12240, iV 0]) ∧ Below W.heap.size W w' := by
  have := due_one (exNet wA a1 a2 a3 a4 a5 a6) g _ [] 0 1 0 6781 11100 8 W hn hT hk (ex_sound wA a1 a2 a3 a4 a5 a6) (show 0 < 2 by omega) (show 1 < 2 by omega) (show 0 < 1 by omega) (by omega) (by omega) (ex_first2 wA a1 a2 a3 a4 a5 a6) (ex_most wA a1 a2 a3 a4 a5 a6 A B) (ex_add2 wA a1 a2 a3 a4 a5 a6)
  rwa [ex_time2] at this
theorem exc_check (hn : NetIn W (exNet wA a1 a2 a3 a4 a5 a6)) (hk : KW W) :
    Calls Tryz.prog 24 #[netV (exNet wA a1 a2 a3 a4 a5 a6)] W fun e w' => ∃ D c, e = .returned (.slice D 0 c) ∧ Below W.heap.size W w' := by
  refine (scheck_any _ W hn hk).mono ?_
  rintro e w' ⟨D, m, c, xs, rfl, -, -, hm, -, hb⟩
  obtain rfl : m = 0 := hm.2 (ex_sound wA a1 a2 a3 a4 a5 a6)
  exact ⟨D, c, rfl, hb⟩
end
end Go.Proofs.YtldkmljjmnaefaaGreatDoor
namespace Go.Proofs.YtldkmljjmnaefaaGreatDoor
open Go.RowKit

set_option maxHeartbeats 16000000 in
set_option maxRecDepth 100000 in
theorem head_any (w : World) (hk : KW w) :
    Calls Tryz.prog 8 #[] w fun e w' => e = .returned (.bool true) ∧ Below w.heap.size w w' := by
  have HK0 := Lib.hid hk; clear hk
  go_enter Tryz.func8, Tryz.ntmps8
  go_wp2_with fail
  refine (example_any _).mono ?_
  rintro e w1 ⟨wA, a1, a2, a3, a4, a5, a6, rfl, hn, hb⟩
  generalize hNN : exNet wA a1 a2 a3 a4 a5 a6 = N at *
  have HNN := Lib.hid hNN; clear hNN
  have hba := ba w1 (netO N)
  have HD : Hid (HdS w (w1.alloc (netO N)) w1.heap.size N) := ⟨bt hb hba, heap_alloc_new _ _, hn.below hba, (HK0.out.below hb).below hba⟩
  have HLC : Hid (N.cals[0]? = some (exCal wA)) := by rw [← HNN.out]; rfl
  have HLO : Hid (N.offs.length = 2) := by rw [← HNN.out]; rfl
  have HLK : Hid (N.clss.length = 1) := by rw [← HNN.out]; rfl
  have HW1 : Hid (∀ A B C W, NetIn W N → Tab W C (exNx A B (-1) 0 1 (-1)) → KW W → Calls Tryz.prog 10 #[netV N, .slice C 2 2, iV 0, iV 1, iV 1020] W fun e w' => ∃ D c, e = .returned (.tuple #[.slice D 2 c, iV 0]) ∧ Rd w' D ((st2 1020 1200 1500).flatMap encSt) ∧ Below W.heap.size W w') := by rw [← HNN.out]; exact exc_way1 wA a1 a2 a3 a4 a5 a6
  have HW2 : Hid (∀ A B C W, NetIn W N → Tab W C (exNx A B (-1) 0 1 (-1)) → KW W → Calls Tryz.prog 10 #[netV N, .slice C 2 2, iV 0, iV 1, iV 1190] W fun e w' => ∃ D c, e = .returned (.tuple #[.slice D 2 c, iV 0]) ∧ Rd w' D ((st2 1190 2640 2940).flatMap encSt) ∧ Below W.heap.size W w') := by rw [← HNN.out]; exact exc_way2 wA a1 a2 a3 a4 a5 a6
  have HW3 : Hid (∀ A B C W, NetIn W N → Tab W C (exNx A B (-1) (-1) (-1) (-1)) → KW W → Calls Tryz.prog 10 #[netV N, .slice C 2 2, iV 0, iV 1, iV 0] W fun e w' => ∃ D c, e = .returned (.tuple #[.slice D 0 c, iV 170]) ∧ Below W.heap.size W w') := by rw [← HNN.out]; exact exc_way3 wA a1 a2 a3 a4 a5 a6
  have HDE : Hid (∀ W, NetIn W N → KW W → Calls Tryz.prog 11 #[netV N, iV 0, iV 1, iV 1500] W fun e w' => e = .returned (.tuple #[iV 2160, iV 0]) ∧ Below W.heap.size W w') := by rw [← HNN.out]; exact exc_del wA a1 a2 a3 a4 a5 a6
  have HCU : Hid (∀ W, NetIn W N → KW W → Calls Tryz.prog 12 #[netV N, iV 0, iV 0, iV 1021] W fun e w' => e = .returned (.tuple #[iV 2460, iV 0]) ∧ Below W.heap.size W w') := by rw [← HNN.out]; exact exc_cut wA a1 a2 a3 a4 a5 a6
  have HRE : Hid (∀ W, NetIn W N → KW W → Calls Tryz.prog 18 #[netV N, iV 0, iV 1020] W fun e w' => e = .returned (iV 1040) ∧ Below W.heap.size W w') := by rw [← HNN.out]; exact exc_ready wA a1 a2 a3 a4 a5 a6
  have HCH : Hid (∀ W, NetIn W N → KW W → Calls Tryz.prog 24 #[netV N] W fun e w' => ∃ D c, e = .returned (.slice D 0 c) ∧ Below W.heap.size W w') := by rw [← HNN.out]; exact exc_check wA a1 a2 a3 a4 a5 a6
  have HTA : Hid (∀ A B C W, NetIn W N → Tab W C (exNx A B (-1) 0 1 (-1)) → KW W → Calls Tryz.prog 13 #[netV N, .slice C 2 2, iV 0, iV 7] W fun e w' => ∃ g, e = .returned (.slice (some ⟨g, 0, none⟩) 1 1) ∧ Tb3 w' g N (fun k o d => mostR N (exNx A B (-1) 0 1 (-1)) k o d 0 7) ∧ Below W.heap.size W w') := by rw [← HNN.out]; exact exc_table wA a1 a2 a3 a4 a5 a6
  have HU1 : Hid (∀ A B W g, NetIn W N → Tb3 W g N (fun k o d => mostR N (exNx A B (-1) 0 1 (-1)) k o d 0 7) → KW W → Calls Tryz.prog 22 #[netV N, .slice (some ⟨g, 0, none⟩) 1 1, postV [] 0 1 0 500] W fun e w' => e = .returned (.tuple #[iV 2160, iV 0]) ∧ Below W.heap.size W w') := by rw [← HNN.out]; exact exc_due1 wA a1 a2 a3 a4 a5 a6
  have HU2 : Hid (∀ A B W g, NetIn W N → Tb3 W g N (fun k o d => mostR N (exNx A B (-1) 0 1 (-1)) k o d 0 7) → KW W → Calls Tryz.prog 22 #[netV N, .slice (some ⟨g, 0, none⟩) 1 1, postV [] 0 1 0 6781] W fun e w' => e = .returned (.tuple #[iV 12240, iV 0]) ∧ Below W.heap.size W w') := by rw [← HNN.out]; exact exc_due2 wA a1 a2 a3 a4 a5 a6
  have HMO : Hid (∀ A B, mostR N (exNx A B (-1) 0 1 (-1)) 0 0 1 0 7 = 1) := by rw [← HNN.out]; exact ex_most wA a1 a2 a3 a4 a5 a6
  clear hn hb hba
  go_wp2_with fail
  change Code.wp _ _ _ _ (w1.alloc (netO N))
  generalize (w1.alloc (netO N)) = W0 at *
  generalize w1.heap.size = Y at *
  have HS2 : Hid (∀ w', Below W0.heap.size W0 w' → HdS w w' Y N) := fun w' hb => HD.out.below hb
  go_region_held3 (fun w' => w'.cell? ⟨Y, 0, none⟩ = some (.slice N.calA N.cals.length N.calC) ∧ w'.cell? ⟨Y, 1, none⟩ = some (.slice N.namA N.names.length N.namC) ∧ w'.cell? ⟨Y, 2, none⟩ = some (.slice N.opA N.ops.length N.opC) ∧ w'.cell? ⟨Y, 3, none⟩ = some (.slice N.offA N.offs.length N.offC) ∧ w'.cell? ⟨Y, 4, none⟩ = some (.slice N.linA N.lins.length N.linC) ∧ w'.cell? ⟨Y, 5, none⟩ = some (.slice N.clsA N.clss.length N.clsC)) (first | (with_reducible exact (HS2.out _ (b_drew (Below.refl _ _))).cells) | (with_reducible exact (HS2.out _ HBn2.out).cells) | (with_reducible exact (HS2.out _ HBw2.out).cells)) (first
      | (go_at_call 21; refine (nexttab_any _).mono ?_; rintro e wn2 ⟨nA2, nB2, nC2, rfl, hT, hb⟩; have HT2 := Lib.hid hT; have HBn2 := Lib.hid (bdr hb); clear hT hb)
      | (go_at_call 10; refine (HW1.out nA2 nB2 nC2 _ (HS2.out _ HBn2.out).net HT2.out (HS2.out _ HBn2.out).kw).mono ?_; rintro e ww2 ⟨D2, c2, rfl, hr, hb⟩; have HBw2 := Lib.hid (bt HBn2.out hb); have HR2 := Lib.hid hr; clear hr; clear hb)
      | fail)
  have HD2 := Lib.hid (HD.out.below HBw2.out)
  clear HD HS2 HT2 HBn2 HBw2 HW1
  go_wp2_with fail
  have HS3 : Hid (∀ w', Below ww2.heap.size ww2 w' → HdS w w' Y N) := fun w' hb => HD2.out.below hb
  go_region_held3 (fun w' => w'.cell? ⟨Y, 0, none⟩ = some (.slice N.calA N.cals.length N.calC) ∧ w'.cell? ⟨Y, 1, none⟩ = some (.slice N.namA N.names.length N.namC) ∧ w'.cell? ⟨Y, 2, none⟩ = some (.slice N.opA N.ops.length N.opC) ∧ w'.cell? ⟨Y, 3, none⟩ = some (.slice N.offA N.offs.length N.offC) ∧ w'.cell? ⟨Y, 4, none⟩ = some (.slice N.linA N.lins.length N.linC) ∧ w'.cell? ⟨Y, 5, none⟩ = some (.slice N.clsA N.clss.length N.clsC)) (first | (with_reducible exact (HS3.out _ (b_drew (Below.refl _ _))).cells) | (with_reducible exact (HS3.out _ HBn3.out).cells) | (with_reducible exact (HS3.out _ HBw3.out).cells)) (first
      | (go_at_call 21; refine (nexttab_any _).mono ?_; rintro e wn3 ⟨nA3, nB3, nC3, rfl, hT, hb⟩; have HT3 := Lib.hid hT; have HBn3 := Lib.hid (bdr hb); clear hT hb)
      | (go_at_call 10; refine (HW2.out nA3 nB3 nC3 _ (HS3.out _ HBn3.out).net HT3.out (HS3.out _ HBn3.out).kw).mono ?_; rintro e ww3 ⟨D3, c3, rfl, hr, hb⟩; have HBw3 := Lib.hid (bt HBn3.out hb); have HR3 := Lib.hid hr; clear hr; clear hb)
      | fail)
  have HD3 := Lib.hid (HD2.out.below HBw3.out)
  have HR2a := Lib.hid (HR2.out.below HBw3.out)
  clear HD2 HR2 HS3 HT3 HBn3 HBw3 HW2
  obtain ⟨n0, n1, n2, n3, n4, n5⟩ := HD3.out.cells
  go_wp2_with fail
  refine (HDE.out _ HD3.out.net HD3.out.kw).mono ?_
  rintro e w4 ⟨rfl, hb⟩
  have HD4 := Lib.hid (HD3.out.below hb)
  have HR2b := Lib.hid (HR2a.out.below hb)
  have HR3b := Lib.hid (HR3.out.below hb)
  clear hb HD3 HR2a HR3 n0 n1 n2 n3 n4 n5 HDE
  obtain ⟨n0, n1, n2, n3, n4, n5⟩ := HD4.out.cells
  go_wp2_with fail
  refine (HCU.out _ HD4.out.net HD4.out.kw).mono ?_
  rintro e w5 ⟨rfl, hb⟩
  have HD5 := Lib.hid (HD4.out.below hb)
  have HR2c := Lib.hid (HR2b.out.below hb)
  have HR3c := Lib.hid (HR3b.out.below hb)
  clear hb HD4 HR2b HR3b n0 n1 n2 n3 n4 n5 HCU
  go_wp2_with fail
  have HS6 : Hid (∀ w', Below w5.heap.size w5 w' → HdS w w' Y N) := fun w' hb => HD5.out.below hb
  go_region_held3 (fun w' => w'.cell? ⟨Y, 0, none⟩ = some (.slice N.calA N.cals.length N.calC) ∧ w'.cell? ⟨Y, 1, none⟩ = some (.slice N.namA N.names.length N.namC) ∧ w'.cell? ⟨Y, 2, none⟩ = some (.slice N.opA N.ops.length N.opC) ∧ w'.cell? ⟨Y, 3, none⟩ = some (.slice N.offA N.offs.length N.offC) ∧ w'.cell? ⟨Y, 4, none⟩ = some (.slice N.linA N.lins.length N.linC) ∧ w'.cell? ⟨Y, 5, none⟩ = some (.slice N.clsA N.clss.length N.clsC)) (first | (with_reducible exact (HS6.out _ (b_drew (Below.refl _ _))).cells) | (with_reducible exact (HS6.out _ HBn6.out).cells) | (with_reducible exact (HS6.out _ HBw6.out).cells)) (first
      | (go_at_call 21; refine (nexttab_any _).mono ?_; rintro e wn6 ⟨nA6, nB6, nC6, rfl, hT, hb⟩; have HT6 := Lib.hid hT; have HBn6 := Lib.hid (bdr hb); clear hT hb)
      | (go_at_call 13; refine (HTA.out nA6 nB6 nC6 _ (HS6.out _ HBn6.out).net HT6.out (HS6.out _ HBn6.out).kw).mono ?_; rintro e ww6 ⟨g, rfl, hr, hb⟩; have HBw6 := Lib.hid (bt HBn6.out hb); have HTB := Lib.hid hr; clear hr; clear hb)
      | fail)
  have HD6 := Lib.hid (HD5.out.below HBw6.out)
  have HR2d := Lib.hid (HR2c.out.below HBw6.out)
  have HR3d := Lib.hid (HR3c.out.below HBw6.out)
  clear HD5 HR2c HR3c HS6 HT6 HBn6 HBw6 HTA
  obtain ⟨g2, g3, t1, t2, t3, -, -, -⟩ := HTB.out.at (k := 0) (o := 0) (d := 1) (by rw [HLK.out]; omega) (by rw [HLO.out]; omega) (by rw [HLO.out]; omega)
  rw [HLO.out] at t1 t2
  rw [HMO.out] at t3
  obtain ⟨n0, n1, n2, n3, n4, n5⟩ := HD6.out.cells
  go_wp2_with fail
  refine (HU1.out nA6 nB6 _ g HD6.out.net HTB.out HD6.out.kw).mono ?_
  rintro e w9 ⟨rfl, hb⟩
  have HD9 := Lib.hid (HD6.out.below hb)
  have HR2e := Lib.hid (HR2d.out.below hb)
  have HR3e := Lib.hid (HR3d.out.below hb)
  have HTB9 := Lib.hid (HTB.out.below hb)
  clear hb HD6 HR2d HR3d HTB t1 t2 t3 n0 n1 n2 n3 n4 n5 HU1
  obtain ⟨n0, n1, n2, n3, n4, n5⟩ := HD9.out.cells
  go_wp2_with fail
  refine (HU2.out nA6 nB6 _ g HD9.out.net HTB9.out HD9.out.kw).mono ?_
  rintro e w10 ⟨rfl, hb⟩
  have HD10 := Lib.hid (HD9.out.below hb)
  have HR2f := Lib.hid (HR2e.out.below hb)
  have HR3f := Lib.hid (HR3e.out.below hb)
  clear hb HD9 HR2e HR3e HTB9 n0 n1 n2 n3 n4 n5 HU2 HMO
  obtain ⟨n0, n1, n2, n3, n4, n5⟩ := HD10.out.cells
  have hg := allocs_get [.cells #[iV (-1), iV (-1)] 3, .cells #[iV (-1), iV (-1)] 3, .cells #[.slice (some ⟨w10.heap.size, 0, none⟩) 2 2, .slice (some ⟨w10.heap.size + 1, 0, none⟩) 2 2] 46] w10
  have HG := Lib.hid hg; clear hg
  have hb := allocs_below [.cells #[iV (-1), iV (-1)] 3, .cells #[iV (-1), iV (-1)] 3, .cells #[.slice (some ⟨w10.heap.size, 0, none⟩) 2 2, .slice (some ⟨w10.heap.size + 1, 0, none⟩) 2 2] 46] w10
  have HDb := Lib.hid (HD10.out.below hb)
  have HBA := Lib.hid hb
  have HR2g := Lib.hid (HR2f.out.below hb)
  have HR3g := Lib.hid (HR3f.out.below hb)
  have HTN : Hid (Tab (allocs w10 [.cells #[iV (-1), iV (-1)] 3, .cells #[iV (-1), iV (-1)] 3, .cells #[.slice (some ⟨w10.heap.size, 0, none⟩) 2 2, .slice (some ⟨w10.heap.size + 1, 0, none⟩) 2 2] 46]) (some ⟨w10.heap.size + 1 + 1, 0, none⟩) (exNx (some ⟨w10.heap.size, 0, none⟩) (some ⟨w10.heap.size + 1, 0, none⟩) (-1) (-1) (-1) (-1))) := by
    refine ⟨rd_block (HG.out 2 _ rfl), fun r hr => ?_⟩
    have : r = ⟨[-1, -1], some ⟨w10.heap.size, 0, none⟩, 2⟩ ∨ r = ⟨[-1, -1], some ⟨w10.heap.size + 1, 0, none⟩, 2⟩ := by simpa [exNx] using hr
    rcases this with rfl | rfl
    · exact ⟨rd_block (HG.out 0 _ rfl), fun n hn => by (have : n = -1 := by simpa using hn); subst this; exact i64_small (by decide) (by decide), show 2 ≤ maxLen by decide⟩
    · exact ⟨rd_block (HG.out 1 _ rfl), fun n hn => by (have : n = -1 := by simpa using hn); subst this; exact i64_small (by decide) (by decide), show 2 ≤ maxLen by decide⟩
  clear hb
  go_wp2_with fail
  change Calls _ _ _ (allocs w10 [.cells #[iV (-1), iV (-1)] 3, .cells #[iV (-1), iV (-1)] 3, .cells #[.slice (some ⟨w10.heap.size, 0, none⟩) 2 2, .slice (some ⟨w10.heap.size + 1, 0, none⟩) 2 2] 46]) _
  refine (HW3.out _ _ _ _ HDb.out.net HTN.out HDb.out.kw).mono ?_
  rintro e w11 ⟨D11, c11, rfl, hb⟩
  have HD11 := Lib.hid (HDb.out.below hb)
  have HR2h := Lib.hid (HR2g.out.below hb)
  have HR3h := Lib.hid (HR3g.out.below hb)
  clear hb HD10 HDb HR2f HR3f HR2g HR3g HTN HG HBA n0 n1 n2 n3 n4 n5 HW3
  have HBS := Lib.hid (ba w11 (.cells #[iV 0, iV 1020, iV 1200, iV 0, iV 1, iV 1500, iV (-1), iV (-1)] 39))
  have hrn : Rd (w11.alloc (.cells #[iV 0, iV 1020, iV 1200, iV 0, iV 1, iV 1500, iV (-1), iV (-1)] 39)) (some ⟨w11.heap.size, 0, none⟩) ((st2 1020 1200 1500).flatMap encSt) := rd_block (heap_alloc_new _ _)
  have HRN := Lib.hid hrn; clear hrn
  have HD12 := Lib.hid (HD11.out.below HBS.out)
  have HR2i := Lib.hid (HR2h.out.below HBS.out)
  have HR3i := Lib.hid (HR3h.out.below HBS.out)
  clear HD11 HR2h HR3h
  go_wp2_with fail
  refine (same_refl (st2 1020 1200 1500) D2 (some ⟨w11.heap.size, 0, none⟩) c2 2 _ HR2i.out HRN.out (show 2 ≤ 1000 by omega)).mono ?_
  rintro e w12 ⟨rfl, hb⟩
  have HD13 := Lib.hid (HD12.out.below hb)
  have HR3j := Lib.hid (HR3i.out.below hb)
  clear hb HD12 HR2i HR3i HRN HBS
  obtain ⟨-, sb, so, hD3, -, -, hsc⟩ := elem_at encSt_len HR3j.out (i := 0) rfl (by omega)
  obtain ⟨-, sb', so', hD3', -, -, hsc'⟩ := elem_at encSt_len HR3j.out (i := 1) rfl (by omega)
  have hss : sb = sb' ∧ so = so' := by
    rw [hD3] at hD3'
    injection hD3' with h
    injection h with h1 h2
    exact ⟨h1, h2⟩
  obtain ⟨rfl, rfl⟩ := hss
  have v0 : w12.cell? ⟨sb, so + 2, none⟩ = some (iV 2640) := by have := hsc 2 _ rfl; simpa using this
  have v1 : w12.cell? ⟨sb, so + 4 + 1, none⟩ = some (iV 2940) := by have := hsc' 1 _ rfl; simpa using this
  have HD3e := Lib.hid hD3
  clear hsc hsc' hD3'
  subst hD3
  obtain ⟨n0, n1, n2, n3, n4, n5⟩ := HD13.out.cells
  go_wp2_with fail
  refine (HRE.out _ HD13.out.net HD13.out.kw).mono ?_
  rintro e w14 ⟨rfl, hb⟩
  have HD14 := Lib.hid (HD13.out.below hb)
  clear hb HD13 HR3j v0 v1 n0 n1 n2 n3 n4 n5 HD3e
  obtain ⟨n0, n1, n2, n3, n4, n5⟩ := HD14.out.cells
  go_wp2_with fail
  refine (HCH.out _ HD14.out.net HD14.out.kw).mono ?_
  rintro e w15 ⟨DC, cC, rfl, hb⟩
  have HD15 := Lib.hid (HD14.out.below hb)
  clear hb HD14 n0 n1 n2 n3 n4 n5
  have n0 : w15.cell? ⟨Y, 0, none⟩ = some (.slice N.calA N.cals.length N.calC) := HD15.out.cells.1
  obtain ⟨hlt, cb, co, hcA, -, hc0, hcc⟩ := elem_at encCal_len HD15.out.net.cals HLC.out (by omega)
  have x0 : w15.cell? ⟨cb, co, none⟩ = some (iV (exCal wA).zone) := by have := hc0 _ rfl; simpa using this
  have x1 : w15.cell? ⟨cb, co + 1, none⟩ = some (.slice (exCal wA).wA (exCal wA).week.length (exCal wA).wc) := by have := hcc 1 _ rfl; simpa using this
  have x2 : w15.cell? ⟨cb, co + 2, none⟩ = some (.slice (exCal wA).hA (exCal wA).hol.length (exCal wA).hc) := by have := hcc 2 _ rfl; simpa using this
  rw [hcA] at n0
  have hlt' : (0 : Int) < (N.cals.length : Int) := by omega
  have hlt2 : 0 < N.cals.length := hlt
  have HCV : Hid (calB (exCal wA) = true) := by show _ = _; kernel_rfl
  have HCIN := Lib.hid (HD15.out.net.cal _ (List.mem_of_getElem? HLC.out))
  clear hc0 hcc hcA
  go_wp2_with fail
  refine (valid_any (exCal wA) _ HCIN.out).mono ?_
  rintro e w16 ⟨rfl, hb⟩
  rw [HCV.out]
  have HD16 := Lib.hid (HD15.out.below hb)
  clear hb n0 x0 x1 x2
  go_wp2_with fail
  go_ret
  exact ⟨rfl, HD16.out.bel⟩
end Go.Proofs.YtldkmljjmnaefaaGreatDoor
