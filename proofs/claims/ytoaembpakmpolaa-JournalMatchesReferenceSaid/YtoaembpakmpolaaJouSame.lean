/-
  The walk over Same (at equal entries). (The facts are written by a program: wip/jou/gen_same.py.)
-/
import Derived.Test.YtoaembpakmpolaaJouCmp
namespace Go.Proofs.Ytoaembpakmpolaa
open Go.RowKit Jou
attribute [local go_sem] ba_get ba_extract ba_append

set_option maxHeartbeats 4000000 in
set_option maxRecDepth 100000 in
theorem same_same (e : Log) (AC AP BC BP : Option Addr) (c1 c2 c3 c4 : Nat) (w : World) (hA : Rd w AC (e.rcd.contents.map sV)) (hB : Rd w BC (e.rcd.contents.map sV)) (hC : Rd w AP (e.paper.path.map iV)) (hD : Rd w BP (e.paper.path.map iV))
    (hl : e.rcd.contents.length ≤ maxLen) (hl2 : e.paper.path.length ≤ maxLen) :
    Calls Try.prog 21 #[.agg (logCells e AC c1 AP c2), .agg (logCells e BC c3 BP c4)] w fun x w' => x = .returned (.bool true) ∧ Below w.heap.size w w' := by
  have hb2 : Hid (Below w.heap.size w ((w.alloc (.cells (logCells e AC c1 AP c2) 37)).alloc (.cells (logCells e BC c3 BP c4) 37))) := ((Below.refl _ w).alloc (Nat.le_refl _) _).alloc (by simp) _
  have CC : Hid (∀ W, Below w.heap.size w W → Calls Try.prog 55 #[.agg #[iV e.rcd.scanner, iV e.rcd.number, iV e.rcd.kind, iV e.rcd.time, sV e.rcd.label, .slice AC e.rcd.contents.length c1], .agg #[iV e.rcd.scanner, iV e.rcd.number, iV e.rcd.kind, iV e.rcd.time, sV e.rcd.label, .slice BC e.rcd.contents.length c3]] W fun x w' => x = .returned (iV 0) ∧ Below W.heap.size W w') := fun W hW => compare_same e.rcd AC BC c1 c3 W (hA.below hW) (hB.below hW) hl
  have CI : Hid (∀ W, Below w.heap.size w W → Calls Try.prog 56 #[.slice AP e.paper.path.length c2, .slice BP e.paper.path.length c4] W (Quiet W (.bool true))) := fun W hW => ints_same e.paper.path AP BP c2 c4 W (hC.below hW) (hD.below hW) hl2
  clear hA hB hC hD hl hl2
  have x0 : (logCells e AC c1 AP c2)[0]? = some (iV e.kind) := rfl
  have y0 : (logCells e BC c3 BP c4)[0]? = some (iV e.kind) := rfl
  have x1 : (logCells e AC c1 AP c2)[1]? = some (iV e.n) := rfl
  have y1 : (logCells e BC c3 BP c4)[1]? = some (iV e.n) := rfl
  have x2 : (logCells e AC c1 AP c2)[2]? = some (sV e.text) := rfl
  have y2 : (logCells e BC c3 BP c4)[2]? = some (sV e.text) := rfl
  have x3 : (logCells e AC c1 AP c2)[3]? = some (sV e.post.label) := rfl
  have y3 : (logCells e BC c3 BP c4)[3]? = some (sV e.post.label) := rfl
  have x4 : (logCells e AC c1 AP c2)[4]? = some (iV e.post.frm) := rfl
  have y4 : (logCells e BC c3 BP c4)[4]? = some (iV e.post.frm) := rfl
  have x5 : (logCells e AC c1 AP c2)[5]? = some (iV e.post.to) := rfl
  have y5 : (logCells e BC c3 BP c4)[5]? = some (iV e.post.to) := rfl
  have x6 : (logCells e AC c1 AP c2)[6]? = some (iV e.post.cls) := rfl
  have y6 : (logCells e BC c3 BP c4)[6]? = some (iV e.post.cls) := rfl
  have x7 : (logCells e AC c1 AP c2)[7]? = some (iV e.post.acc) := rfl
  have y7 : (logCells e BC c3 BP c4)[7]? = some (iV e.post.acc) := rfl
  have x8 : (logCells e AC c1 AP c2)[8]? = some (iV e.rcd.scanner) := rfl
  have y8 : (logCells e BC c3 BP c4)[8]? = some (iV e.rcd.scanner) := rfl
  have x9 : (logCells e AC c1 AP c2)[9]? = some (iV e.rcd.number) := rfl
  have y9 : (logCells e BC c3 BP c4)[9]? = some (iV e.rcd.number) := rfl
  have x10 : (logCells e AC c1 AP c2)[10]? = some (iV e.rcd.kind) := rfl
  have y10 : (logCells e BC c3 BP c4)[10]? = some (iV e.rcd.kind) := rfl
  have x11 : (logCells e AC c1 AP c2)[11]? = some (iV e.rcd.time) := rfl
  have y11 : (logCells e BC c3 BP c4)[11]? = some (iV e.rcd.time) := rfl
  have x12 : (logCells e AC c1 AP c2)[12]? = some (sV e.rcd.label) := rfl
  have y12 : (logCells e BC c3 BP c4)[12]? = some (sV e.rcd.label) := rfl
  have x13 : (logCells e AC c1 AP c2)[13]? = some (.slice AC e.rcd.contents.length c1) := rfl
  have y13 : (logCells e BC c3 BP c4)[13]? = some (.slice BC e.rcd.contents.length c3) := rfl
  have x14 : (logCells e AC c1 AP c2)[14]? = some (sV e.paper.sl) := rfl
  have y14 : (logCells e BC c3 BP c4)[14]? = some (sV e.paper.sl) := rfl
  have x15 : (logCells e AC c1 AP c2)[15]? = some (iV e.paper.frm) := rfl
  have y15 : (logCells e BC c3 BP c4)[15]? = some (iV e.paper.frm) := rfl
  have x16 : (logCells e AC c1 AP c2)[16]? = some (iV e.paper.to) := rfl
  have y16 : (logCells e BC c3 BP c4)[16]? = some (iV e.paper.to) := rfl
  have x17 : (logCells e AC c1 AP c2)[17]? = some (iV e.paper.time) := rfl
  have y17 : (logCells e BC c3 BP c4)[17]? = some (iV e.paper.time) := rfl
  have x18 : (logCells e AC c1 AP c2)[18]? = some (iV e.paper.count) := rfl
  have y18 : (logCells e BC c3 BP c4)[18]? = some (iV e.paper.count) := rfl
  have x19 : (logCells e AC c1 AP c2)[19]? = some (iV e.paper.root) := rfl
  have y19 : (logCells e BC c3 BP c4)[19]? = some (iV e.paper.root) := rfl
  have x20 : (logCells e AC c1 AP c2)[20]? = some (iV e.paper.give) := rfl
  have y20 : (logCells e BC c3 BP c4)[20]? = some (iV e.paper.give) := rfl
  have x21 : (logCells e AC c1 AP c2)[21]? = some (iV e.paper.take) := rfl
  have y21 : (logCells e BC c3 BP c4)[21]? = some (iV e.paper.take) := rfl
  have x22 : (logCells e AC c1 AP c2)[22]? = some (sV e.paper.label) := rfl
  have y22 : (logCells e BC c3 BP c4)[22]? = some (sV e.paper.label) := rfl
  have x23 : (logCells e AC c1 AP c2)[23]? = some (iV e.paper.index) := rfl
  have y23 : (logCells e BC c3 BP c4)[23]? = some (iV e.paper.index) := rfl
  have x24 : (logCells e AC c1 AP c2)[24]? = some (.slice AP e.paper.path.length c2) := rfl
  have y24 : (logCells e BC c3 BP c4)[24]? = some (.slice BP e.paper.path.length c4) := rfl
  have x25 : (logCells e AC c1 AP c2)[25]? = some (sV e.cpost.label) := rfl
  have y25 : (logCells e BC c3 BP c4)[25]? = some (sV e.cpost.label) := rfl
  have x26 : (logCells e AC c1 AP c2)[26]? = some (iV e.cpost.frm) := rfl
  have y26 : (logCells e BC c3 BP c4)[26]? = some (iV e.cpost.frm) := rfl
  have x27 : (logCells e AC c1 AP c2)[27]? = some (iV e.cpost.to) := rfl
  have y27 : (logCells e BC c3 BP c4)[27]? = some (iV e.cpost.to) := rfl
  have x28 : (logCells e AC c1 AP c2)[28]? = some (iV e.cpost.cls) := rfl
  have y28 : (logCells e BC c3 BP c4)[28]? = some (iV e.cpost.cls) := rfl
  have x29 : (logCells e AC c1 AP c2)[29]? = some (iV e.cpost.acc) := rfl
  have y29 : (logCells e BC c3 BP c4)[29]? = some (iV e.cpost.acc) := rfl
  have x30 : (logCells e AC c1 AP c2)[30]? = some (iV e.due) := rfl
  have y30 : (logCells e BC c3 BP c4)[30]? = some (iV e.due) := rfl
  have x31 : (logCells e AC c1 AP c2)[31]? = some (iV e.amount) := rfl
  have y31 : (logCells e BC c3 BP c4)[31]? = some (iV e.amount) := rfl
  go_enter Try.func21, Try.ntmps21
  go_wp2_with fail
  refine (CC.out _ hb2.out).mono ?_
  rintro e1 w1 ⟨rfl, hb1⟩
  have hb3 : Hid (Below w.heap.size w w1) := hb2.out.trans (hb1.mono (by simp; omega))
  have r1 : Hid (w1.heap[w.heap.size]? = some (.cells (logCells e AC c1 AP c2) 37 (0, 0))) := (hb1.block _ (by simp; omega)).trans ((Below.heap_alloc _ _ _ (by simp)).trans (heap_alloc_new _ _))
  have r2 : Hid (w1.heap[w.heap.size + 1]? = some (.cells (logCells e BC c3 BP c4) 37 (0, 0))) := (hb1.block _ (by simp)).trans (by
    have := heap_alloc_new (w.alloc (.cells (logCells e AC c1 AP c2) 37)) (.cells (logCells e BC c3 BP c4) 37)
    rwa [World.size_alloc] at this)
  clear hb1 hb2 CC x0 y0 x1 y1 x2 y2 x3 y3 x4 y4 x5 y5 x6 y6 x7 y7 x8 y8 x9 y9 x10 y10 x11 y11 x12 y12 x13 y13 x14 y14 x15 y15 x16 y16 x17 y17 x18 y18 x19 y19 x20 y20 x21 y21 x22 y22 x23 y23 x24 y24 x25 y25 x26 y26 x27 y27 x28 y28 x29 y29 x30 y30 x31 y31
  have p14 : w1.cell? ⟨w.heap.size, 14, none⟩ = some (sV e.paper.sl) := cell_of_row w1 _ 14 _ _ _ r1.out
  have q14 : w1.cell? ⟨w.heap.size + 1, 14, none⟩ = some (sV e.paper.sl) := cell_of_row w1 _ 14 _ _ _ r2.out
  have p15 : w1.cell? ⟨w.heap.size, 15, none⟩ = some (iV e.paper.frm) := cell_of_row w1 _ 15 _ _ _ r1.out
  have q15 : w1.cell? ⟨w.heap.size + 1, 15, none⟩ = some (iV e.paper.frm) := cell_of_row w1 _ 15 _ _ _ r2.out
  have p16 : w1.cell? ⟨w.heap.size, 16, none⟩ = some (iV e.paper.to) := cell_of_row w1 _ 16 _ _ _ r1.out
  have q16 : w1.cell? ⟨w.heap.size + 1, 16, none⟩ = some (iV e.paper.to) := cell_of_row w1 _ 16 _ _ _ r2.out
  have p17 : w1.cell? ⟨w.heap.size, 17, none⟩ = some (iV e.paper.time) := cell_of_row w1 _ 17 _ _ _ r1.out
  have q17 : w1.cell? ⟨w.heap.size + 1, 17, none⟩ = some (iV e.paper.time) := cell_of_row w1 _ 17 _ _ _ r2.out
  have p18 : w1.cell? ⟨w.heap.size, 18, none⟩ = some (iV e.paper.count) := cell_of_row w1 _ 18 _ _ _ r1.out
  have q18 : w1.cell? ⟨w.heap.size + 1, 18, none⟩ = some (iV e.paper.count) := cell_of_row w1 _ 18 _ _ _ r2.out
  have p19 : w1.cell? ⟨w.heap.size, 19, none⟩ = some (iV e.paper.root) := cell_of_row w1 _ 19 _ _ _ r1.out
  have q19 : w1.cell? ⟨w.heap.size + 1, 19, none⟩ = some (iV e.paper.root) := cell_of_row w1 _ 19 _ _ _ r2.out
  have p20 : w1.cell? ⟨w.heap.size, 20, none⟩ = some (iV e.paper.give) := cell_of_row w1 _ 20 _ _ _ r1.out
  have q20 : w1.cell? ⟨w.heap.size + 1, 20, none⟩ = some (iV e.paper.give) := cell_of_row w1 _ 20 _ _ _ r2.out
  have p21 : w1.cell? ⟨w.heap.size, 21, none⟩ = some (iV e.paper.take) := cell_of_row w1 _ 21 _ _ _ r1.out
  have q21 : w1.cell? ⟨w.heap.size + 1, 21, none⟩ = some (iV e.paper.take) := cell_of_row w1 _ 21 _ _ _ r2.out
  have p22 : w1.cell? ⟨w.heap.size, 22, none⟩ = some (sV e.paper.label) := cell_of_row w1 _ 22 _ _ _ r1.out
  have q22 : w1.cell? ⟨w.heap.size + 1, 22, none⟩ = some (sV e.paper.label) := cell_of_row w1 _ 22 _ _ _ r2.out
  have p23 : w1.cell? ⟨w.heap.size, 23, none⟩ = some (iV e.paper.index) := cell_of_row w1 _ 23 _ _ _ r1.out
  have q23 : w1.cell? ⟨w.heap.size + 1, 23, none⟩ = some (iV e.paper.index) := cell_of_row w1 _ 23 _ _ _ r2.out
  have p24 : w1.cell? ⟨w.heap.size, 24, none⟩ = some (.slice AP e.paper.path.length c2) := cell_of_row w1 _ 24 _ _ _ r1.out
  have q24 : w1.cell? ⟨w.heap.size + 1, 24, none⟩ = some (.slice BP e.paper.path.length c4) := cell_of_row w1 _ 24 _ _ _ r2.out
  have p25 : w1.cell? ⟨w.heap.size, 25, none⟩ = some (sV e.cpost.label) := cell_of_row w1 _ 25 _ _ _ r1.out
  have q25 : w1.cell? ⟨w.heap.size + 1, 25, none⟩ = some (sV e.cpost.label) := cell_of_row w1 _ 25 _ _ _ r2.out
  have p26 : w1.cell? ⟨w.heap.size, 26, none⟩ = some (iV e.cpost.frm) := cell_of_row w1 _ 26 _ _ _ r1.out
  have q26 : w1.cell? ⟨w.heap.size + 1, 26, none⟩ = some (iV e.cpost.frm) := cell_of_row w1 _ 26 _ _ _ r2.out
  have p27 : w1.cell? ⟨w.heap.size, 27, none⟩ = some (iV e.cpost.to) := cell_of_row w1 _ 27 _ _ _ r1.out
  have q27 : w1.cell? ⟨w.heap.size + 1, 27, none⟩ = some (iV e.cpost.to) := cell_of_row w1 _ 27 _ _ _ r2.out
  have p28 : w1.cell? ⟨w.heap.size, 28, none⟩ = some (iV e.cpost.cls) := cell_of_row w1 _ 28 _ _ _ r1.out
  have q28 : w1.cell? ⟨w.heap.size + 1, 28, none⟩ = some (iV e.cpost.cls) := cell_of_row w1 _ 28 _ _ _ r2.out
  have p29 : w1.cell? ⟨w.heap.size, 29, none⟩ = some (iV e.cpost.acc) := cell_of_row w1 _ 29 _ _ _ r1.out
  have q29 : w1.cell? ⟨w.heap.size + 1, 29, none⟩ = some (iV e.cpost.acc) := cell_of_row w1 _ 29 _ _ _ r2.out
  have p30 : w1.cell? ⟨w.heap.size, 30, none⟩ = some (iV e.due) := cell_of_row w1 _ 30 _ _ _ r1.out
  have q30 : w1.cell? ⟨w.heap.size + 1, 30, none⟩ = some (iV e.due) := cell_of_row w1 _ 30 _ _ _ r2.out
  have p31 : w1.cell? ⟨w.heap.size, 31, none⟩ = some (iV e.amount) := cell_of_row w1 _ 31 _ _ _ r1.out
  have q31 : w1.cell? ⟨w.heap.size + 1, 31, none⟩ = some (iV e.amount) := cell_of_row w1 _ 31 _ _ _ r2.out
  go_wp2_with fail
  refine (CI.out _ hb3.out).mono ?_
  rintro e1 w2 ⟨rfl, n, rfl⟩
  go_wp2
  go_ret
  exact ⟨rfl, below_drewN hb3.out _⟩
end Go.Proofs.Ytoaembpakmpolaa
