/-
  The walk over the law's example. What the law's examples come to, in plain Lean. The walks over the law's ints, and over the reference's Same at equal certificates.
-/
import Derived.Test.YtjpabeoflhkfkaaGreatDoorPo
import Derived.Deep.QuietTactic
import Derived.BigQuiet
namespace Go.Proofs.YtjpabeoflhkfkaaGreatDoor
open Go.RowKit

def exCal8 (wA : Option Addr) : Cal := ⟨0, [true, true, true, true, true, true, true], wA, 7, [], none, 0⟩
def exOff8 (x : UInt8) : Off := ⟨[x], 0, 0, 2, 1, 10, [], none, 0⟩
/-- The network of the chapter's example. -/
def exN (cut : Int) (wA a1 a2 a3 a4 a5 a6 : Option Addr) : Net :=
  { cals := [exCal8 wA], calA := a1, calC := 1, names := [[99]], namA := a2, namC := 1, ops := [[112]], opA := a3, opC := 1, offs := [exOff8 97, exOff8 98], offA := a4, offC := 2, lins := [⟨[120], 0, 1, 600, 60, 1⟩, ⟨[121], 1, 0, 600, 60, 1⟩], linA := a5, linC := 2, clss := [⟨[107], cut, 720⟩], clsA := a6, clsC := 1 }
theorem exN_in {W : World} {cut : Int} {wA a1 a2 a3 a4 a5 a6 : Option Addr} (hc : -1000000 ≤ cut ∧ cut ≤ 1000000) (h1 : Rd W wA [oV true, oV true, oV true, oV true, oV true, oV true, oV true]) (h2 : Rd W a1 [iV 0, .slice wA 7 7, .slice none 0 0]) (h3 : Rd W a2 [sV [99]]) (h4 : Rd W a3 [sV [112]])
    (h5 : Rd W a4 [sV [97], iV 0, iV 0, iV 2, iV 1, iV 10, .slice none 0 0, sV [98], iV 0, iV 0, iV 2, iV 1, iV 10, .slice none 0 0]) (h6 : Rd W a5 [sV [120], iV 0, iV 1, iV 600, iV 60, iV 1, sV [121], iV 1, iV 0, iV 600, iV 60, iV 1]) (h7 : Rd W a6 [sV [107], iV cut, iV 720]) : NetIn W (exN cut wA a1 a2 a3 a4 a5 a6) := by
  refine ⟨h2, fun c hc => ?_, h3, fun s hs => ?_, h4, fun s hs => ?_, h5, fun o ho => ?_, h6, fun l hl => ?_, h7, fun k hk => ?_, ?_⟩
  · obtain rfl : c = exCal8 _ := by simpa [exN] using hc
    exact ⟨show I64 0 from i64_small (by decide) (by decide), h1, Rd.nil _ _, (fun n hn => by cases hn), show 7 ≤ maxLen by decide, show 0 ≤ maxLen by decide⟩
  · obtain rfl : s = [99] := by simpa [exN] using hs
    decide
  · obtain rfl : s = [112] := by simpa [exN] using hs
    decide
  · have : o = exOff8 97 ∨ o = exOff8 98 := by simpa [exN] using ho
    rcases this with rfl | rfl
    · exact ⟨⟨by decide, i64_small (by decide) (by decide), i64_small (by decide) (by decide), i64_small (by decide) (by decide), i64_small (by decide) (by decide), i64_small (by decide) (by decide)⟩, Rd.nil _ _, (fun s hs => by cases hs), by decide⟩
    · exact ⟨⟨by decide, i64_small (by decide) (by decide), i64_small (by decide) (by decide), i64_small (by decide) (by decide), i64_small (by decide) (by decide), i64_small (by decide) (by decide)⟩, Rd.nil _ _, (fun s hs => by cases hs), by decide⟩
  · have : l = ⟨[120], 0, 1, 600, 60, 1⟩ ∨ l = ⟨[121], 1, 0, 600, 60, 1⟩ := by simpa [exN] using hl
    rcases this with rfl | rfl
    · exact ⟨by decide, i64_small (by decide) (by decide), i64_small (by decide) (by decide), i64_small (by decide) (by decide), i64_small (by decide) (by decide), i64_small (by decide) (by decide)⟩
    · exact ⟨by decide, i64_small (by decide) (by decide), i64_small (by decide) (by decide), i64_small (by decide) (by decide), i64_small (by decide) (by decide), i64_small (by decide) (by decide)⟩
  · obtain rfl : k = ⟨[107], cut, 720⟩ := by simpa [exN] using hk
    exact ⟨show 1 ≤ maxLen by decide, i64_small hc.1 hc.2, show I64 720 from i64_small (by decide) (by decide)⟩
  · exact ⟨show 1 ≤ maxLen by decide, show 1 ≤ maxLen by decide, show 1 ≤ maxLen by decide, show 2 ≤ maxLen by decide, show 2 ≤ maxLen by decide, show 1 ≤ maxLen by decide⟩
/-- What Example gives. -/
def Exam8 (w : World) (e : Ending) (w' : World) : Prop :=
  ∃ wA a1 a2 a3 a4 a5 a6 A B C E F G H, e = .returned (.tuple #[netV (exN 300 wA a1 a2 a3 a4 a5 a6), .agg #[iV 0, iV 1, .slice C 2 2, .slice H 1 1]]) ∧ NetIn w' (exN 300 wA a1 a2 a3 a4 a5 a6) ∧ Tab w' C (exNx A B (-1) 0 1 (-1)) ∧ DTab w' H (exDs E F G 0 0 0 0) ∧ Below w.heap.size w w'
set_option maxHeartbeats 8000000 in
set_option maxRecDepth 100000 in
theorem example8_any (w : World) : Calls Tryz.prog 25 #[] w (Exam8 w) := by
  have hg := allocs_get [.cells #[.slice (some ⟨w.heap.size + 1 + 1 + 1 + 1, 0, none⟩) 1 1, .slice (some ⟨w.heap.size + 1 + 1 + 1 + 1 + 1, 0, none⟩) 1 1, .slice (some ⟨w.heap.size + 1 + 1 + 1 + 1 + 1 + 1, 0, none⟩) 1 1, .slice (some ⟨w.heap.size + 1 + 1 + 1 + 1 + 1 + 1 + 1 + 1, 0, none⟩) 2 2, .slice (some ⟨w.heap.size + 1 + 1 + 1 + 1 + 1 + 1 + 1 + 1 + 1, 0, none⟩) 2 2, .slice (some ⟨w.heap.size + 1 + 1 + 1 + 1 + 1 + 1 + 1 + 1 + 1 + 1, 0, none⟩) 1 1] 36, .cells #[iV 0, iV 1, .slice (some ⟨w.heap.size + 1 + 1 + 1 + 1 + 1 + 1 + 1 + 1 + 1 + 1 + 1 + 1 + 1, 0, none⟩) 2 2, .slice (some ⟨w.heap.size + 1 + 1 + 1 + 1 + 1 + 1 + 1 + 1 + 1 + 1 + 1 + 1 + 1 + 1 + 1 + 1 + 1, 0, none⟩) 1 1] 40, .cells #[oV true, oV true, oV true, oV true, oV true, oV true, oV true] 4, .cells #[iV 0, .slice (some ⟨w.heap.size + 1 + 1, 0, none⟩) 7 7, .slice none 0 0] 58, .cells #[iV 0, .slice (some ⟨w.heap.size + 1 + 1, 0, none⟩) 7 7, .slice none 0 0] 58, .cells #[sV [99]] 9, .cells #[sV [112]] 114, .cells #[.slice (some ⟨w.heap.size + 1 + 1 + 1 + 1, 0, none⟩) 1 1, .slice (some ⟨w.heap.size + 1 + 1 + 1 + 1 + 1, 0, none⟩) 1 1, .slice (some ⟨w.heap.size + 1 + 1 + 1 + 1 + 1 + 1, 0, none⟩) 1 1, .slice (some ⟨w.heap.size + 1 + 1 + 1 + 1 + 1 + 1 + 1 + 1, 0, none⟩) 2 2, .slice (some ⟨w.heap.size + 1 + 1 + 1 + 1 + 1 + 1 + 1 + 1 + 1, 0, none⟩) 2 2, .slice (some ⟨w.heap.size + 1 + 1 + 1 + 1 + 1 + 1 + 1 + 1 + 1 + 1, 0, none⟩) 1 1] 36, .cells #[sV [97], iV 0, iV 0, iV 2, iV 1, iV 10, .slice none 0 0, sV [98], iV 0, iV 0, iV 2, iV 1, iV 10, .slice none 0 0] 60, .cells #[sV [120], iV 0, iV 1, iV 600, iV 60, iV 1, sV [121], iV 1, iV 0, iV 600, iV 60, iV 1] 116, .cells #[sV [107], iV 300, iV 720] 76, .cells #[iV (-1), iV 0] 3, .cells #[iV 1, iV (-1)] 3, .cells #[.slice (some ⟨w.heap.size + 1 + 1 + 1 + 1 + 1 + 1 + 1 + 1 + 1 + 1 + 1, 0, none⟩) 2 2, .slice (some ⟨w.heap.size + 1 + 1 + 1 + 1 + 1 + 1 + 1 + 1 + 1 + 1 + 1 + 1, 0, none⟩) 2 2] 25, .cells #[iV 0, iV 0] 3, .cells #[iV 0, iV 0] 3, .cells #[.slice (some ⟨w.heap.size + 1 + 1 + 1 + 1 + 1 + 1 + 1 + 1 + 1 + 1 + 1 + 1 + 1 + 1, 0, none⟩) 2 2, .slice (some ⟨w.heap.size + 1 + 1 + 1 + 1 + 1 + 1 + 1 + 1 + 1 + 1 + 1 + 1 + 1 + 1 + 1, 0, none⟩) 2 2] 25, .cells #[.slice (some ⟨w.heap.size + 1 + 1 + 1 + 1 + 1 + 1 + 1 + 1 + 1 + 1 + 1 + 1 + 1 + 1 + 1 + 1, 0, none⟩) 2 2] 37] w
  have HG := Lib.hid hg; clear hg
  have hb := allocs_below [.cells #[.slice (some ⟨w.heap.size + 1 + 1 + 1 + 1, 0, none⟩) 1 1, .slice (some ⟨w.heap.size + 1 + 1 + 1 + 1 + 1, 0, none⟩) 1 1, .slice (some ⟨w.heap.size + 1 + 1 + 1 + 1 + 1 + 1, 0, none⟩) 1 1, .slice (some ⟨w.heap.size + 1 + 1 + 1 + 1 + 1 + 1 + 1 + 1, 0, none⟩) 2 2, .slice (some ⟨w.heap.size + 1 + 1 + 1 + 1 + 1 + 1 + 1 + 1 + 1, 0, none⟩) 2 2, .slice (some ⟨w.heap.size + 1 + 1 + 1 + 1 + 1 + 1 + 1 + 1 + 1 + 1, 0, none⟩) 1 1] 36, .cells #[iV 0, iV 1, .slice (some ⟨w.heap.size + 1 + 1 + 1 + 1 + 1 + 1 + 1 + 1 + 1 + 1 + 1 + 1 + 1, 0, none⟩) 2 2, .slice (some ⟨w.heap.size + 1 + 1 + 1 + 1 + 1 + 1 + 1 + 1 + 1 + 1 + 1 + 1 + 1 + 1 + 1 + 1 + 1, 0, none⟩) 1 1] 40, .cells #[oV true, oV true, oV true, oV true, oV true, oV true, oV true] 4, .cells #[iV 0, .slice (some ⟨w.heap.size + 1 + 1, 0, none⟩) 7 7, .slice none 0 0] 58, .cells #[iV 0, .slice (some ⟨w.heap.size + 1 + 1, 0, none⟩) 7 7, .slice none 0 0] 58, .cells #[sV [99]] 9, .cells #[sV [112]] 114, .cells #[.slice (some ⟨w.heap.size + 1 + 1 + 1 + 1, 0, none⟩) 1 1, .slice (some ⟨w.heap.size + 1 + 1 + 1 + 1 + 1, 0, none⟩) 1 1, .slice (some ⟨w.heap.size + 1 + 1 + 1 + 1 + 1 + 1, 0, none⟩) 1 1, .slice (some ⟨w.heap.size + 1 + 1 + 1 + 1 + 1 + 1 + 1 + 1, 0, none⟩) 2 2, .slice (some ⟨w.heap.size + 1 + 1 + 1 + 1 + 1 + 1 + 1 + 1 + 1, 0, none⟩) 2 2, .slice (some ⟨w.heap.size + 1 + 1 + 1 + 1 + 1 + 1 + 1 + 1 + 1 + 1, 0, none⟩) 1 1] 36, .cells #[sV [97], iV 0, iV 0, iV 2, iV 1, iV 10, .slice none 0 0, sV [98], iV 0, iV 0, iV 2, iV 1, iV 10, .slice none 0 0] 60, .cells #[sV [120], iV 0, iV 1, iV 600, iV 60, iV 1, sV [121], iV 1, iV 0, iV 600, iV 60, iV 1] 116, .cells #[sV [107], iV 300, iV 720] 76, .cells #[iV (-1), iV 0] 3, .cells #[iV 1, iV (-1)] 3, .cells #[.slice (some ⟨w.heap.size + 1 + 1 + 1 + 1 + 1 + 1 + 1 + 1 + 1 + 1 + 1, 0, none⟩) 2 2, .slice (some ⟨w.heap.size + 1 + 1 + 1 + 1 + 1 + 1 + 1 + 1 + 1 + 1 + 1 + 1, 0, none⟩) 2 2] 25, .cells #[iV 0, iV 0] 3, .cells #[iV 0, iV 0] 3, .cells #[.slice (some ⟨w.heap.size + 1 + 1 + 1 + 1 + 1 + 1 + 1 + 1 + 1 + 1 + 1 + 1 + 1 + 1, 0, none⟩) 2 2, .slice (some ⟨w.heap.size + 1 + 1 + 1 + 1 + 1 + 1 + 1 + 1 + 1 + 1 + 1 + 1 + 1 + 1 + 1, 0, none⟩) 2 2] 25, .cells #[.slice (some ⟨w.heap.size + 1 + 1 + 1 + 1 + 1 + 1 + 1 + 1 + 1 + 1 + 1 + 1 + 1 + 1 + 1 + 1, 0, none⟩) 2 2] 37] w
  have HB := Lib.hid hb; clear hb
  go_enter Tryz.func25, Tryz.ntmps25
  go_wp2
  change bodyPost _ _ _ _ _ (allocs w [.cells #[.slice (some ⟨w.heap.size + 1 + 1 + 1 + 1, 0, none⟩) 1 1, .slice (some ⟨w.heap.size + 1 + 1 + 1 + 1 + 1, 0, none⟩) 1 1, .slice (some ⟨w.heap.size + 1 + 1 + 1 + 1 + 1 + 1, 0, none⟩) 1 1, .slice (some ⟨w.heap.size + 1 + 1 + 1 + 1 + 1 + 1 + 1 + 1, 0, none⟩) 2 2, .slice (some ⟨w.heap.size + 1 + 1 + 1 + 1 + 1 + 1 + 1 + 1 + 1, 0, none⟩) 2 2, .slice (some ⟨w.heap.size + 1 + 1 + 1 + 1 + 1 + 1 + 1 + 1 + 1 + 1, 0, none⟩) 1 1] 36, .cells #[iV 0, iV 1, .slice (some ⟨w.heap.size + 1 + 1 + 1 + 1 + 1 + 1 + 1 + 1 + 1 + 1 + 1 + 1 + 1, 0, none⟩) 2 2, .slice (some ⟨w.heap.size + 1 + 1 + 1 + 1 + 1 + 1 + 1 + 1 + 1 + 1 + 1 + 1 + 1 + 1 + 1 + 1 + 1, 0, none⟩) 1 1] 40, .cells #[oV true, oV true, oV true, oV true, oV true, oV true, oV true] 4, .cells #[iV 0, .slice (some ⟨w.heap.size + 1 + 1, 0, none⟩) 7 7, .slice none 0 0] 58, .cells #[iV 0, .slice (some ⟨w.heap.size + 1 + 1, 0, none⟩) 7 7, .slice none 0 0] 58, .cells #[sV [99]] 9, .cells #[sV [112]] 114, .cells #[.slice (some ⟨w.heap.size + 1 + 1 + 1 + 1, 0, none⟩) 1 1, .slice (some ⟨w.heap.size + 1 + 1 + 1 + 1 + 1, 0, none⟩) 1 1, .slice (some ⟨w.heap.size + 1 + 1 + 1 + 1 + 1 + 1, 0, none⟩) 1 1, .slice (some ⟨w.heap.size + 1 + 1 + 1 + 1 + 1 + 1 + 1 + 1, 0, none⟩) 2 2, .slice (some ⟨w.heap.size + 1 + 1 + 1 + 1 + 1 + 1 + 1 + 1 + 1, 0, none⟩) 2 2, .slice (some ⟨w.heap.size + 1 + 1 + 1 + 1 + 1 + 1 + 1 + 1 + 1 + 1, 0, none⟩) 1 1] 36, .cells #[sV [97], iV 0, iV 0, iV 2, iV 1, iV 10, .slice none 0 0, sV [98], iV 0, iV 0, iV 2, iV 1, iV 10, .slice none 0 0] 60, .cells #[sV [120], iV 0, iV 1, iV 600, iV 60, iV 1, sV [121], iV 1, iV 0, iV 600, iV 60, iV 1] 116, .cells #[sV [107], iV 300, iV 720] 76, .cells #[iV (-1), iV 0] 3, .cells #[iV 1, iV (-1)] 3, .cells #[.slice (some ⟨w.heap.size + 1 + 1 + 1 + 1 + 1 + 1 + 1 + 1 + 1 + 1 + 1, 0, none⟩) 2 2, .slice (some ⟨w.heap.size + 1 + 1 + 1 + 1 + 1 + 1 + 1 + 1 + 1 + 1 + 1 + 1, 0, none⟩) 2 2] 25, .cells #[iV 0, iV 0] 3, .cells #[iV 0, iV 0] 3, .cells #[.slice (some ⟨w.heap.size + 1 + 1 + 1 + 1 + 1 + 1 + 1 + 1 + 1 + 1 + 1 + 1 + 1 + 1, 0, none⟩) 2 2, .slice (some ⟨w.heap.size + 1 + 1 + 1 + 1 + 1 + 1 + 1 + 1 + 1 + 1 + 1 + 1 + 1 + 1 + 1, 0, none⟩) 2 2] 25, .cells #[.slice (some ⟨w.heap.size + 1 + 1 + 1 + 1 + 1 + 1 + 1 + 1 + 1 + 1 + 1 + 1 + 1 + 1 + 1 + 1, 0, none⟩) 2 2] 37])
  generalize (allocs w [.cells #[.slice (some ⟨w.heap.size + 1 + 1 + 1 + 1, 0, none⟩) 1 1, .slice (some ⟨w.heap.size + 1 + 1 + 1 + 1 + 1, 0, none⟩) 1 1, .slice (some ⟨w.heap.size + 1 + 1 + 1 + 1 + 1 + 1, 0, none⟩) 1 1, .slice (some ⟨w.heap.size + 1 + 1 + 1 + 1 + 1 + 1 + 1 + 1, 0, none⟩) 2 2, .slice (some ⟨w.heap.size + 1 + 1 + 1 + 1 + 1 + 1 + 1 + 1 + 1, 0, none⟩) 2 2, .slice (some ⟨w.heap.size + 1 + 1 + 1 + 1 + 1 + 1 + 1 + 1 + 1 + 1, 0, none⟩) 1 1] 36, .cells #[iV 0, iV 1, .slice (some ⟨w.heap.size + 1 + 1 + 1 + 1 + 1 + 1 + 1 + 1 + 1 + 1 + 1 + 1 + 1, 0, none⟩) 2 2, .slice (some ⟨w.heap.size + 1 + 1 + 1 + 1 + 1 + 1 + 1 + 1 + 1 + 1 + 1 + 1 + 1 + 1 + 1 + 1 + 1, 0, none⟩) 1 1] 40, .cells #[oV true, oV true, oV true, oV true, oV true, oV true, oV true] 4, .cells #[iV 0, .slice (some ⟨w.heap.size + 1 + 1, 0, none⟩) 7 7, .slice none 0 0] 58, .cells #[iV 0, .slice (some ⟨w.heap.size + 1 + 1, 0, none⟩) 7 7, .slice none 0 0] 58, .cells #[sV [99]] 9, .cells #[sV [112]] 114, .cells #[.slice (some ⟨w.heap.size + 1 + 1 + 1 + 1, 0, none⟩) 1 1, .slice (some ⟨w.heap.size + 1 + 1 + 1 + 1 + 1, 0, none⟩) 1 1, .slice (some ⟨w.heap.size + 1 + 1 + 1 + 1 + 1 + 1, 0, none⟩) 1 1, .slice (some ⟨w.heap.size + 1 + 1 + 1 + 1 + 1 + 1 + 1 + 1, 0, none⟩) 2 2, .slice (some ⟨w.heap.size + 1 + 1 + 1 + 1 + 1 + 1 + 1 + 1 + 1, 0, none⟩) 2 2, .slice (some ⟨w.heap.size + 1 + 1 + 1 + 1 + 1 + 1 + 1 + 1 + 1 + 1, 0, none⟩) 1 1] 36, .cells #[sV [97], iV 0, iV 0, iV 2, iV 1, iV 10, .slice none 0 0, sV [98], iV 0, iV 0, iV 2, iV 1, iV 10, .slice none 0 0] 60, .cells #[sV [120], iV 0, iV 1, iV 600, iV 60, iV 1, sV [121], iV 1, iV 0, iV 600, iV 60, iV 1] 116, .cells #[sV [107], iV 300, iV 720] 76, .cells #[iV (-1), iV 0] 3, .cells #[iV 1, iV (-1)] 3, .cells #[.slice (some ⟨w.heap.size + 1 + 1 + 1 + 1 + 1 + 1 + 1 + 1 + 1 + 1 + 1, 0, none⟩) 2 2, .slice (some ⟨w.heap.size + 1 + 1 + 1 + 1 + 1 + 1 + 1 + 1 + 1 + 1 + 1 + 1, 0, none⟩) 2 2] 25, .cells #[iV 0, iV 0] 3, .cells #[iV 0, iV 0] 3, .cells #[.slice (some ⟨w.heap.size + 1 + 1 + 1 + 1 + 1 + 1 + 1 + 1 + 1 + 1 + 1 + 1 + 1 + 1, 0, none⟩) 2 2, .slice (some ⟨w.heap.size + 1 + 1 + 1 + 1 + 1 + 1 + 1 + 1 + 1 + 1 + 1 + 1 + 1 + 1 + 1, 0, none⟩) 2 2] 25, .cells #[.slice (some ⟨w.heap.size + 1 + 1 + 1 + 1 + 1 + 1 + 1 + 1 + 1 + 1 + 1 + 1 + 1 + 1 + 1 + 1, 0, none⟩) 2 2] 37]) = W at *
  have h0 := HG.out 0 _ rfl
  have h1 := HG.out 1 _ rfl
  have h2 := HG.out 2 _ rfl
  have h3 := HG.out 3 _ rfl
  have h4 := HG.out 4 _ rfl
  have h5 := HG.out 5 _ rfl
  have h6 := HG.out 6 _ rfl
  have h7 := HG.out 7 _ rfl
  have h8 := HG.out 8 _ rfl
  have h9 := HG.out 9 _ rfl
  have h10 := HG.out 10 _ rfl
  have h11 := HG.out 11 _ rfl
  have h12 := HG.out 12 _ rfl
  have h13 := HG.out 13 _ rfl
  have h14 := HG.out 14 _ rfl
  have h15 := HG.out 15 _ rfl
  have h16 := HG.out 16 _ rfl
  have h17 := HG.out 17 _ rfl
  have n0 : W.cell? ⟨w.heap.size, 0, none⟩ = some (.slice (some ⟨w.heap.size + 1 + 1 + 1 + 1, 0, none⟩) 1 1) := cell_of_row _ _ 0 _ _ _ h0
  have n1 : W.cell? ⟨w.heap.size, 1, none⟩ = some (.slice (some ⟨w.heap.size + 1 + 1 + 1 + 1 + 1, 0, none⟩) 1 1) := cell_of_row _ _ 1 _ _ _ h0
  have n2 : W.cell? ⟨w.heap.size, 2, none⟩ = some (.slice (some ⟨w.heap.size + 1 + 1 + 1 + 1 + 1 + 1, 0, none⟩) 1 1) := cell_of_row _ _ 2 _ _ _ h0
  have n3 : W.cell? ⟨w.heap.size, 3, none⟩ = some (.slice (some ⟨w.heap.size + 1 + 1 + 1 + 1 + 1 + 1 + 1 + 1, 0, none⟩) 2 2) := cell_of_row _ _ 3 _ _ _ h0
  have n4 : W.cell? ⟨w.heap.size, 4, none⟩ = some (.slice (some ⟨w.heap.size + 1 + 1 + 1 + 1 + 1 + 1 + 1 + 1 + 1, 0, none⟩) 2 2) := cell_of_row _ _ 4 _ _ _ h0
  have n5 : W.cell? ⟨w.heap.size, 5, none⟩ = some (.slice (some ⟨w.heap.size + 1 + 1 + 1 + 1 + 1 + 1 + 1 + 1 + 1 + 1, 0, none⟩) 1 1) := cell_of_row _ _ 5 _ _ _ h0
  have p0 : W.cell? ⟨w.heap.size + 1, 0, none⟩ = some (iV 0) := cell_of_row _ _ 0 _ _ _ h1
  have p1 : W.cell? ⟨w.heap.size + 1, 1, none⟩ = some (iV 1) := cell_of_row _ _ 1 _ _ _ h1
  have p2 : W.cell? ⟨w.heap.size + 1, 2, none⟩ = some (.slice (some ⟨w.heap.size + 1 + 1 + 1 + 1 + 1 + 1 + 1 + 1 + 1 + 1 + 1 + 1 + 1, 0, none⟩) 2 2) := cell_of_row _ _ 2 _ _ _ h1
  have p3 : W.cell? ⟨w.heap.size + 1, 3, none⟩ = some (.slice (some ⟨w.heap.size + 1 + 1 + 1 + 1 + 1 + 1 + 1 + 1 + 1 + 1 + 1 + 1 + 1 + 1 + 1 + 1 + 1, 0, none⟩) 1 1) := cell_of_row _ _ 3 _ _ _ h1
  have e1 : (loadVar 36 ⟨w.heap.size, 0, none⟩).run Tryz.prog W = .ok (netV (exN 300 (some ⟨w.heap.size + 1 + 1, 0, none⟩) (some ⟨w.heap.size + 1 + 1 + 1 + 1, 0, none⟩) (some ⟨w.heap.size + 1 + 1 + 1 + 1 + 1, 0, none⟩) (some ⟨w.heap.size + 1 + 1 + 1 + 1 + 1 + 1, 0, none⟩) (some ⟨w.heap.size + 1 + 1 + 1 + 1 + 1 + 1 + 1 + 1, 0, none⟩) (some ⟨w.heap.size + 1 + 1 + 1 + 1 + 1 + 1 + 1 + 1 + 1, 0, none⟩) (some ⟨w.heap.size + 1 + 1 + 1 + 1 + 1 + 1 + 1 + 1 + 1 + 1, 0, none⟩))) W := by
    simp [loadVar, go_sem, n0, n1, n2, n3, n4, n5, exN]
  have e2 : (loadVar 40 ⟨w.heap.size + 1, 0, none⟩).run Tryz.prog W = .ok (.agg #[iV 0, iV 1, .slice (some ⟨w.heap.size + 1 + 1 + 1 + 1 + 1 + 1 + 1 + 1 + 1 + 1 + 1 + 1 + 1, 0, none⟩) 2 2, .slice (some ⟨w.heap.size + 1 + 1 + 1 + 1 + 1 + 1 + 1 + 1 + 1 + 1 + 1 + 1 + 1 + 1 + 1 + 1 + 1, 0, none⟩) 1 1]) W := by
    simp [loadVar, go_sem, p0, p1, p2, p3]
  refine bodyPost_ret (v := .tuple #[netV (exN 300 (some ⟨w.heap.size + 1 + 1, 0, none⟩) (some ⟨w.heap.size + 1 + 1 + 1 + 1, 0, none⟩) (some ⟨w.heap.size + 1 + 1 + 1 + 1 + 1, 0, none⟩) (some ⟨w.heap.size + 1 + 1 + 1 + 1 + 1 + 1, 0, none⟩) (some ⟨w.heap.size + 1 + 1 + 1 + 1 + 1 + 1 + 1 + 1, 0, none⟩) (some ⟨w.heap.size + 1 + 1 + 1 + 1 + 1 + 1 + 1 + 1 + 1, 0, none⟩) (some ⟨w.heap.size + 1 + 1 + 1 + 1 + 1 + 1 + 1 + 1 + 1 + 1, 0, none⟩)), .agg #[iV 0, iV 1, .slice (some ⟨w.heap.size + 1 + 1 + 1 + 1 + 1 + 1 + 1 + 1 + 1 + 1 + 1 + 1 + 1, 0, none⟩) 2 2, .slice (some ⟨w.heap.size + 1 + 1 + 1 + 1 + 1 + 1 + 1 + 1 + 1 + 1 + 1 + 1 + 1 + 1 + 1 + 1 + 1, 0, none⟩) 1 1]]) (by simp [results, Tryz.results25, asAddr, e1, e2]) rfl
    ⟨_, _, _, _, _, _, _, _, _, _, _, _, _, _, rfl, ?_, tab_two h11 h12 h13 ⟨i64_small (by decide) (by decide), i64_small (by decide) (by decide), i64_small (by decide) (by decide), i64_small (by decide) (by decide)⟩, dtab_one h14 h15 h16 h17 ⟨i64_small (by decide) (by decide), i64_small (by decide) (by decide), i64_small (by decide) (by decide), i64_small (by decide) (by decide)⟩, HB.out⟩
  exact exN_in (by decide) (rd_block h2) (rd_block h4) (rd_block h5) (rd_block h6) (rd_block h8) (rd_block h9) (rd_block h10)
end Go.Proofs.YtjpabeoflhkfkaaGreatDoor
namespace Go.Proofs.YtjpabeoflhkfkaaGreatDoor
open Go.RowKit

section
variable (cut : Int) (wA a1 a2 a3 a4 a5 a6 A B E F G : Option Addr)
theorem ok_one8 {α : Type} {nm : Nat → List UInt8} {gd : α → Bool} {x : α} (h1 : nameB (nm 0) = true) (h2 : gd x = true) : ∀ i < [x].length, okAt nm gd [x] i := by
  intro i hi
  obtain rfl : i = 0 := by simpa using hi
  exact ⟨h1, rfl, fun y hy => by cases hy; exact h2⟩
theorem ok_two8 {α : Type} {nm : Nat → List UInt8} {gd : α → Bool} {x y : α} (h1 : nameB (nm 0) = true) (h2 : gd x = true) (h3 : nameB (nm 1) = true) (h4 : gd y = true) (h5 : freshB nm 1 = true) : ∀ i < [x, y].length, okAt nm gd [x, y] i := by
  intro i hi
  have : i = 0 ∨ i = 1 := by simp at hi; omega
  rcases this with rfl | rfl
  · exact ⟨h1, rfl, fun z hz => by cases hz; exact h2⟩
  · exact ⟨h3, h5, fun z hz => by cases hz; exact h4⟩
theorem ex8_cons (hc : clsB ⟨[107], cut, 720⟩ = true) : Cons (exN cut wA a1 a2 a3 a4 a5 a6) :=
  ⟨rfl, ⟨by show 1 ≤ 6; decide, ok_one8 (by kernel_rfl) (by kernel_rfl)⟩, ⟨by show 1 ≤ 6; decide, ok_one8 (by kernel_rfl) (by kernel_rfl)⟩,
   ⟨by show 2 ≤ 12; decide, ok_two8 (by kernel_rfl) (by kernel_rfl) (by kernel_rfl) (by kernel_rfl) (by kernel_rfl)⟩,
   ⟨by show 2 ≤ 40; decide, ok_two8 (by kernel_rfl) (by kernel_rfl) (by kernel_rfl) (by kernel_rfl) (by kernel_rfl)⟩,
   ⟨by show 1 ≤ 4; decide, ok_one8 (by kernel_rfl) hc⟩⟩
theorem ex8_sound (hc : clsB ⟨[107], cut, 720⟩ = true) : Sound (exN cut wA a1 a2 a3 a4 a5 a6) := by
  refine ⟨ex8_cons cut wA a1 a2 a3 a4 a5 a6 hc, fun b hb a ha => ?_⟩
  have hE := edges_in (ex8_cons cut wA a1 a2 a3 a4 a5 a6 hc).lins
  have hb2 : b < 2 := hb
  have ha2 : a < 2 := ha
  have key : ∃ L, Wlk (edgesOf (exN cut wA a1 a2 a3 a4 a5 a6)) a b L := by
    have e1 : (0, 1, (60 : Int)) ∈ edgesOf (exN cut wA a1 a2 a3 a4 a5 a6) := by simp [edgesOf, exN]
    have e2 : (1, 0, (60 : Int)) ∈ edgesOf (exN cut wA a1 a2 a3 a4 a5 a6) := by simp [edgesOf, exN]
    rcases (by omega : a = 0 ∨ a = 1) with rfl | rfl
    · rcases (by omega : b = 0 ∨ b = 1) with rfl | rfl
      · exact ⟨_, .nil 0⟩
      · exact ⟨_, .cons e1 (.nil 1)⟩
    · rcases (by omega : b = 0 ∨ b = 1) with rfl | rfl
      · exact ⟨_, .cons e2 (.nil 0)⟩
      · exact ⟨_, .nil 1⟩
  obtain ⟨L, hL⟩ := key
  exact (dist_le (by omega) hE (by omega) (by omega) hL).1
theorem ex8_write {x y z u till : Int} {r : Int × List Int} (hc : clsB ⟨[107], cut, 720⟩ = true) (hf : formedB (exN cut wA a1 a2 a3 a4 a5 a6) 0 till (exNx A B (-1) 0 1 (-1)) (exDs E F G x y z u) = true) (hr : writeR (exN cut wA a1 a2 a3 a4 a5 a6) 0 till (exNx A B (-1) 0 1 (-1)) (exDs E F G x y z u) = r) :
    writeTop (exN cut wA a1 a2 a3 a4 a5 a6) 0 till (exNx A B (-1) 0 1 (-1)) (exDs E F G x y z u) = r :=
  (if_pos ⟨ex8_sound cut wA a1 a2 a3 a4 a5 a6 hc, hf⟩).trans hr
theorem ex8_a : writeTop (exN 300 wA a1 a2 a3 a4 a5 a6) 0 1 (exNx A B (-1) 0 1 (-1)) (exDs E F G 0 0 0 0) = (0, [0, 1, 2, 1, 0, 1, 2, 0, 1, 1, 1, 1, 2, 2]) :=
  ex8_write 300 wA a1 a2 a3 a4 a5 a6 A B E F G (by kernel_rfl) (by kernel_rfl) (by kernel_rfl)
theorem ex8_b : writeTop (exN 300 wA a1 a2 a3 a4 a5 a6) 0 1 (exNx A B (-1) 0 1 (-1)) (exDs E F G (-1) 1 (-1) (-1)) = (0, [0, 1, 2, 1, 0, 1, 2, 0, 0, 2, 0, 0, 2]) :=
  ex8_write 300 wA a1 a2 a3 a4 a5 a6 A B E F G (by kernel_rfl) (by kernel_rfl) (by kernel_rfl)
theorem ex8_c : writeTop (exN 300 wA a1 a2 a3 a4 a5 a6) 0 61 (exNx A B (-1) 0 1 (-1)) (exDs E F G (-1) 1 (-1) (-1)) = (1, []) := by
  have h : formedB (exN 300 wA a1 a2 a3 a4 a5 a6) 0 61 (exNx A B (-1) 0 1 (-1)) (exDs E F G (-1) 1 (-1) (-1)) = false := by kernel_rfl
  exact if_neg (fun k => by rw [h] at k; cases k.2)
theorem ex8_d : writeTop (exN 700 wA a1 a2 a3 a4 a5 a6) 0 1 (exNx A B (-1) 0 1 (-1)) (exDs E F G 0 0 0 0) = (190, []) :=
  ex8_write 700 wA a1 a2 a3 a4 a5 a6 A B E F G (by kernel_rfl) (by kernel_rfl) (by kernel_rfl)
end
end Go.Proofs.YtjpabeoflhkfkaaGreatDoor
namespace Go.Proofs.YtjpabeoflhkfkaaGreatDoor
open Go.RowKit

theorem take_eq_step {xs ys : List Int} {k : Nat} {x y : Int} (hx : xs[k]? = some x) (hy : ys[k]? = some y) (h : xs.take k = ys.take k) (e : x = y) : xs.take (k + 1) = ys.take (k + 1) := by
  rw [take_one hx, take_one hy, h, e]
set_option maxHeartbeats 4000000 in
set_option maxRecDepth 100000 in
theorem ints_any (xs ys : List Int) (A B : Option Addr) (c c' : Nat) (w : World) (hA : Rd w A (xs.map iV)) (hB : Rd w B (ys.map iV)) (hx : xs.length ≤ 1000000000) :
    Calls Tryz.prog 17 #[.slice A xs.length c, .slice B ys.length c'] w fun e w' => e = .returned (.bool (decide (xs = ys))) ∧ Below w.heap.size w w' := by
  have HA := Lib.hid hA; clear hA
  have HB := Lib.hid hB; clear hB
  by_cases hl : xs.length = ys.length
  case neg =>
    have e1 : ((xs.length : Int) != (ys.length : Int)) = true := by simp; omega
    have HN : Hid (decide (xs = ys) = false) := decide_eq_false (fun h => hl (by rw [h]))
    clear hl
    go_enter Tryz.func17, Tryz.ntmps17
    go_wp2
    go_ret
    exact ⟨ret_bool HN.out.symm, Below.refl _ _⟩
  have HLL := Lib.hid hl
  have e1 : ((xs.length : Int) != (ys.length : Int)) = false := by rw [hl]; simp
  clear hl
  go_enter Tryz.func17, Tryz.ntmps17
  go_wp2
  go_loopw [5] (fun i wr => ∃ k q : Nat, k ≤ xs.length ∧ i = iV k ∧ wr = w.drewN q ∧ xs.take k = ys.take k) (fun i _ => xs.length + 1 - (intOf i).toNat)
  case atStart => exact ⟨0, 0, by omega, rfl, rfl, rfl⟩
  case round =>
    obtain ⟨k, q, hk, rfl, rfl, hkk⟩ := hrel
    have HKK := Lib.hid hkk; clear hkk
    have k0 : (0 : Int) ≤ (k : Int) := by omega
    by_cases hlt : k < xs.length
    · have HLT := Lib.hid hlt
      have k1 : (k : Int) < (xs.length : Int) := by omega
      have k2 : (k : Int) < (ys.length : Int) := by have := HLL.out; omega
      obtain ⟨ab, ao, hAA, -, hac⟩ := HA.out.get (i := k) (by simpa using hlt)
      obtain ⟨bb, bo, hBB, -, hbc⟩ := HB.out.get (i := k) (by have := HLL.out; simp; omega)
      obtain ⟨x, hxx⟩ : ∃ x, xs[k]? = some x := ⟨_, List.getElem?_eq_getElem hlt⟩
      obtain ⟨y, hyy⟩ : ∃ y, ys[k]? = some y := ⟨_, List.getElem?_eq_getElem (by have := HLL.out; omega)⟩
      have x0 : w.cell? ⟨ab, ao + k, none⟩ = some (iV x) := hac k _ (by rw [List.getElem?_map, hxx]; rfl)
      have y0 : w.cell? ⟨bb, bo + k, none⟩ = some (iV y) := hbc k _ (by rw [List.getElem?_map, hyy]; rfl)
      have HX := Lib.hid hxx
      have HY := Lib.hid hyy
      have HAA := Lib.hid hAA
      have HBB := Lib.hid hBB
      clear hac hbc hxx hyy
      rw [hAA, hBB]
      clear hAA hBB
      by_cases hxy : x = y
      case neg =>
        have e2 : (x != y) = true := by simpa using hxy
        have HN : Hid (decide (xs = ys) = false) := decide_eq_false (fun h => by
          have h1 := HX.out
          rw [h, HY.out] at h1
          exact hxy (Option.some.inj h1).symm)
        clear hxy
        go_wp2
        go_quiet (fail)
        go_wp2
        go_ret
        exact ⟨ret_bool HN.out.symm, below_drewN (below_drewN (Below.refl _ _) _) _⟩
      have e2 : (x != y) = false := by simpa using hxy
      have HE := Lib.hid hxy
      clear hxy
      go_wp2
      go_quiet (fail)
      go_wp2
      go_roundw
      case rel => exact ⟨k + 1, _, by have := HLT.out; omega, by go_num, rfl, take_eq_step HX.out HY.out HKK.out HE.out⟩
      case measure => have := HLT.out; simp [intOf]; omega
    · have k1 : ¬ (k : Int) < (xs.length : Int) := by omega
      have HN : Hid (decide (xs = ys) = true) := decide_eq_true (by
        have h := HKK.out
        rw [List.take_of_length_le (by omega), List.take_of_length_le (by have := HLL.out; omega)] at h
        exact h)
      go_wp2
      go_ret
      exact ⟨ret_bool HN.out.symm, below_drewN (Below.refl _ _) _⟩
set_option maxHeartbeats 4000000 in
set_option maxRecDepth 100000 in
theorem same8_refl (xs : List Int) (s : Int) (A B : Option Addr) (c c' : Nat) (w : World) (hA : Rd w A (xs.map iV)) (hB : Rd w B (xs.map iV)) (hx : xs.length ≤ 1000000000) :
    Calls Tryz.prog 27 #[.agg #[.slice A xs.length c, iV s], .agg #[.slice B xs.length c', iV s]] w fun e w' => e = .returned (.bool true) ∧ Below w.heap.size w w' := by
  have hb : Below w.heap.size w ((w.alloc (.cells #[.slice A xs.length c, iV s] 43)).alloc (.cells #[.slice B xs.length c', iV s] 43)) := ((Below.refl _ w).alloc (Nat.le_refl _) _).alloc (by simp) _
  have h0 : ((w.alloc (.cells #[.slice A xs.length c, iV s] 43)).alloc (.cells #[.slice B xs.length c', iV s] 43)).heap[w.heap.size]? = some (.cells #[.slice A xs.length c, iV s] 43 (0, 0)) := (Below.heap_alloc _ _ _ (by simp)).trans (heap_alloc_new _ _)
  have h1 := heap_alloc_new (w.alloc (.cells #[.slice A xs.length c, iV s] 43)) (.cells #[.slice B xs.length c', iV s] 43)
  rw [World.size_alloc] at h1
  have HA := Lib.hid (hA.below hb); clear hA
  have HB := Lib.hid (hB.below hb); clear hB
  have HBL := Lib.hid hb
  have e1 : (s != s) = false := by simp
  have e2 : ((xs.length : Int) != (xs.length : Int)) = false := by simp
  have a0 := cell_of_row _ _ 0 _ _ _ h0
  have a1 := cell_of_row _ _ 1 _ _ _ h0
  have b0 := cell_of_row _ _ 0 _ _ _ h1
  have b1 := cell_of_row _ _ 1 _ _ _ h1
  have H0 := Lib.hid h0
  have H1 := Lib.hid h1
  have c0 : ((w.alloc (.cells #[.slice A xs.length c, iV s] 43)).alloc (.cells #[.slice B xs.length c', iV s] 43)).cell? ⟨w.heap.size, 0, none⟩ = some (.slice A xs.length c) := a0
  have c1 : ((w.alloc (.cells #[.slice A xs.length c, iV s] 43)).alloc (.cells #[.slice B xs.length c', iV s] 43)).cell? ⟨w.heap.size, 1, none⟩ = some (iV s) := a1
  have c2 : ((w.alloc (.cells #[.slice A xs.length c, iV s] 43)).alloc (.cells #[.slice B xs.length c', iV s] 43)).cell? ⟨w.heap.size + 1, 0, none⟩ = some (.slice B xs.length c') := b0
  have c3 : ((w.alloc (.cells #[.slice A xs.length c, iV s] 43)).alloc (.cells #[.slice B xs.length c', iV s] 43)).cell? ⟨w.heap.size + 1, 1, none⟩ = some (iV s) := b1
  clear hb h0 h1 a0 a1 b0 b1
  go_enter Tryz.func27, Tryz.ntmps27
  go_upto_region 1 with fail
  change Code.wp _ _ _ _ ((w.alloc (.cells #[.slice A xs.length c, iV s] 43)).alloc (.cells #[.slice B xs.length c', iV s] 43))
  generalize ((w.alloc (.cells #[.slice A xs.length c, iV s] 43)).alloc (.cells #[.slice B xs.length c', iV s] 43)) = W at *
  go_wp2
  go_loopw [5] (fun i wr => ∃ k q : Nat, k ≤ xs.length ∧ i = iV k ∧ wr = W.drewN q) (fun i _ => xs.length + 1 - (intOf i).toNat)
  case atStart => exact ⟨0, 0, by omega, rfl, rfl⟩
  case round =>
    obtain ⟨k, q, hk, rfl, rfl⟩ := hrel
    have k0 : (0 : Int) ≤ (k : Int) := by omega
    by_cases hlt : k < xs.length
    · have HLT := Lib.hid hlt
      have k1 : (k : Int) < (xs.length : Int) := by omega
      obtain ⟨ab, ao, hAA, -, hac⟩ := HA.out.get (i := k) (by simpa using hlt)
      obtain ⟨bb, bo, hBB, -, hbc⟩ := HB.out.get (i := k) (by simpa using hlt)
      obtain ⟨x, hxx⟩ : ∃ x, xs[k]? = some x := ⟨_, List.getElem?_eq_getElem hlt⟩
      have x0 : W.cell? ⟨ab, ao + k, none⟩ = some (iV x) := hac k _ (by rw [List.getElem?_map, hxx]; rfl)
      have y0 : W.cell? ⟨bb, bo + k, none⟩ = some (iV x) := hbc k _ (by rw [List.getElem?_map, hxx]; rfl)
      have HAA := Lib.hid hAA
      have HBB := Lib.hid hBB
      have e3 : (x != x) = false := by simp
      clear hac hbc hxx
      subst hAA
      subst hBB
      go_wp2
      go_quiet (fail)
      go_wp2
      go_roundw
      case rel => exact ⟨k + 1, _, by have := HLT.out; omega, by go_num, rfl⟩
      case measure => have := HLT.out; simp [intOf]; omega
    · have k1 : ¬ (k : Int) < (xs.length : Int) := by omega
      go_wp2
      go_ret
      exact ⟨rfl, below_drewN HBL.out _⟩
end Go.Proofs.YtjpabeoflhkfkaaGreatDoor
