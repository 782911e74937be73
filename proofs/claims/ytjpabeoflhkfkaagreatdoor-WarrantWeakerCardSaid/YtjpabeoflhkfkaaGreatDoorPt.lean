/-
  The walks over the reference's numbers. (Printed by gen_reff.py.) The walk over the reference's errno; names, numbers for every kind. The walk over the reference's faults, Consistent. The walks over the reference's Small, Few, Lines, within. (Printed by gen_refs.py.)
-/
import Derived.Test.YtjpabeoflhkfkaaGreatDoorPs
namespace Go.Proofs.YtjpabeoflhkfkaaGreatDoor
open Go.RowKit

set_option maxHeartbeats 4000000 in
set_option maxRecDepth 100000 in
theorem numbers_1 (n : Net) (i : Nat) (x : Cal) (w : World) (hn : NetIn w n) (hx : n.cals[i]? = some x) :
    Calls Tryz.prog 187 #[netV n, iV 1, iV i] w fun e w' => e = .returned (.bool (calB x)) ∧ Below w.heap.size w w' := by
  have hb0 := ba w (netO n)
  have hx0 := heap_alloc_new w (netO n)
  have HNP : Hid (NetP (w.alloc (netO n)) w.heap.size n) := ⟨fun i v hv => (cell_of_row _ _ _ _ _ _ hx0).trans hv, hn.below hb0⟩
  have HB0 := Lib.hid hb0
  have HL := Lib.hid hn.lens
  have hlen := hn.lens
  unfold maxLen at hlen
  clear hn hb0 hx0
  go_enter Tryz.func187, Tryz.ntmps187
  go_upto_region 1 with fail
  change Code.wp _ _ _ _ (w.alloc (netO n))
  generalize (w.alloc (netO n)) = W at *
  generalize hX : w.heap.size = X at *
  have HX := Lib.hid hX; clear hX
  have hI : CalIn W x := HNP.out.net.cal x (List.mem_of_getElem? hx)
  have HI := Lib.hid hI; clear hI
  obtain ⟨hlt, b, off, hA, hbl, hc0, hc⟩ := elem_at encCal_len HNP.out.net.cals hx (by omega)
  have n0 : W.cell? ⟨X, 0, none⟩ = some (.slice n.calA n.cals.length n.calC) := HNP.out.box 0 _ rfl
  rw [hA] at n0
  have x0 : W.cell? ⟨b, off + i * 3, none⟩ = some (iV x.zone) := hc0 _ rfl
  have x1 : W.cell? ⟨b, off + i * 3 + 1, none⟩ = some (.slice x.wA x.week.length x.wc) := hc 1 _ rfl
  have x2 : W.cell? ⟨b, off + i * 3 + 2, none⟩ = some (.slice x.hA x.hol.length x.hc) := hc 2 _ rfl
  have j1 : (0 : Int) ≤ (i : Int) := by omega
  have j2 : (i : Int) < (n.cals.length : Int) := by omega
  clear hc0 hc hx
  clear hbl hA
  go_wp2_with fail
  refine (rvalid_any x _ HI.out).mono ?_
  rintro e w2 ⟨rfl, hb⟩
  have HB := Lib.hid hb; clear hb
  go_wp2_with fail
  go_ret
  exact ⟨rfl, by have h := HB0.out; rw [← HX.out] at h; exact bt h HB.out⟩
set_option maxHeartbeats 4000000 in
set_option maxRecDepth 100000 in
theorem numbers_3 (n : Net) (i : Nat) (x : Off) (w : World) (hn : NetIn w n) (hx : n.offs[i]? = some x) :
    Calls Tryz.prog 187 #[netV n, iV 3, iV i] w fun e w' => e = .returned (.bool (officeB n x)) ∧ Below w.heap.size w w' := by
  have hb0 := ba w (netO n)
  have hx0 := heap_alloc_new w (netO n)
  have HNP : Hid (NetP (w.alloc (netO n)) w.heap.size n) := ⟨fun i v hv => (cell_of_row _ _ _ _ _ _ hx0).trans hv, hn.below hb0⟩
  have HB0 := Lib.hid hb0
  have HL := Lib.hid hn.lens
  have hlen := hn.lens
  unfold maxLen at hlen
  clear hn hb0 hx0
  go_enter Tryz.func187, Tryz.ntmps187
  go_upto_region 1 with fail
  change Code.wp _ _ _ _ (w.alloc (netO n))
  generalize (w.alloc (netO n)) = W at *
  generalize hX : w.heap.size = X at *
  have HX := Lib.hid hX; clear hX
  have hI : OffIn W x := HNP.out.net.off x (List.mem_of_getElem? hx)
  have HI := Lib.hid hI; clear hI
  obtain ⟨hlt, b, off, hA, hbl, hc0, hc⟩ := elem_at encOff_len HNP.out.net.offs hx (by omega)
  have n3 : W.cell? ⟨X, 3, none⟩ = some (.slice n.offA n.offs.length n.offC) := HNP.out.box 3 _ rfl
  rw [hA] at n3
  have n0 : W.cell? ⟨X, 0, none⟩ = some (.slice n.calA n.cals.length n.calC) := HNP.out.box 0 _ rfl
  have n1 : W.cell? ⟨X, 1, none⟩ = some (.slice n.namA n.names.length n.namC) := HNP.out.box 1 _ rfl
  have n2 : W.cell? ⟨X, 2, none⟩ = some (.slice n.opA n.ops.length n.opC) := HNP.out.box 2 _ rfl
  have n4 : W.cell? ⟨X, 4, none⟩ = some (.slice n.linA n.lins.length n.linC) := HNP.out.box 4 _ rfl
  have n5 : W.cell? ⟨X, 5, none⟩ = some (.slice n.clsA n.clss.length n.clsC) := HNP.out.box 5 _ rfl
  have x0 : W.cell? ⟨b, off + i * 7, none⟩ = some (sV x.name) := hc0 _ rfl
  have x1 : W.cell? ⟨b, off + i * 7 + 1, none⟩ = some (iV x.op) := hc 1 _ rfl
  have x2 : W.cell? ⟨b, off + i * 7 + 2, none⟩ = some (iV x.cal) := hc 2 _ rfl
  have x3 : W.cell? ⟨b, off + i * 7 + 3, none⟩ = some (iV x.pockets) := hc 3 _ rfl
  have x4 : W.cell? ⟨b, off + i * 7 + 4, none⟩ = some (iV x.passes) := hc 4 _ rfl
  have x5 : W.cell? ⟨b, off + i * 7 + 5, none⟩ = some (iV x.minutes) := hc 5 _ rfl
  have x6 : W.cell? ⟨b, off + i * 7 + 6, none⟩ = some (.slice x.cA x.codes.length x.cc) := hc 6 _ rfl
  have j1 : (0 : Int) ≤ (i : Int) := by omega
  have j2 : (i : Int) < (n.offs.length : Int) := by omega
  clear hc0 hc hx
  have hXl := World.block_lt_of_cell? W _ n3
  have HS : Hid (∀ w', Below W.heap.size W w' → w'.cell? ⟨X, 0, none⟩ = some (.slice n.calA n.cals.length n.calC) ∧ w'.cell? ⟨X, 1, none⟩ = some (.slice n.namA n.names.length n.namC) ∧ w'.cell? ⟨X, 2, none⟩ = some (.slice n.opA n.ops.length n.opC) ∧ w'.cell? ⟨X, 3, none⟩ = some (.slice (some ⟨b, off, none⟩) n.offs.length n.offC) ∧ w'.cell? ⟨X, 4, none⟩ = some (.slice n.linA n.lins.length n.linC) ∧ w'.cell? ⟨X, 5, none⟩ = some (.slice n.clsA n.clss.length n.clsC) ∧ w'.cell? ⟨b, off + i * 7, none⟩ = some (sV x.name) ∧ w'.cell? ⟨b, off + i * 7 + 1, none⟩ = some (iV x.op) ∧ w'.cell? ⟨b, off + i * 7 + 2, none⟩ = some (iV x.cal) ∧ w'.cell? ⟨b, off + i * 7 + 3, none⟩ = some (iV x.pockets) ∧ w'.cell? ⟨b, off + i * 7 + 4, none⟩ = some (iV x.passes) ∧ w'.cell? ⟨b, off + i * 7 + 5, none⟩ = some (iV x.minutes) ∧ w'.cell? ⟨b, off + i * 7 + 6, none⟩ = some (.slice x.cA x.codes.length x.cc)) := fun w' hb => ⟨(hb.cell (p := ⟨X, 0, none⟩) hXl).trans n0, (hb.cell (p := ⟨X, 1, none⟩) hXl).trans n1, (hb.cell (p := ⟨X, 2, none⟩) hXl).trans n2, (hb.cell (p := ⟨X, 3, none⟩) hXl).trans n3, (hb.cell (p := ⟨X, 4, none⟩) hXl).trans n4, (hb.cell (p := ⟨X, 5, none⟩) hXl).trans n5, (hb.cell (p := ⟨b, _, none⟩) hbl).trans x0, (hb.cell (p := ⟨b, _, none⟩) hbl).trans x1, (hb.cell (p := ⟨b, _, none⟩) hbl).trans x2, (hb.cell (p := ⟨b, _, none⟩) hbl).trans x3, (hb.cell (p := ⟨b, _, none⟩) hbl).trans x4, (hb.cell (p := ⟨b, _, none⟩) hbl).trans x5, (hb.cell (p := ⟨b, _, none⟩) hbl).trans x6⟩
  clear hXl
  have HCALL : Hid (∀ w', Below W.heap.size W w' → Calls Tryz.prog 194 #[.agg #[.slice n.calA n.cals.length n.calC, .slice n.namA n.names.length n.namC, .slice n.opA n.ops.length n.opC, .slice (some ⟨b, off, none⟩) n.offs.length n.offC, .slice n.linA n.lins.length n.linC, .slice n.clsA n.clss.length n.clsC], offV x] w' fun e w2 => e = .returned (.bool (officeB n x)) ∧ Below w'.heap.size w' w2) := fun w' hb => by
    have h := roffice_any n x w' (HI.out.below hb) ⟨HL.out.2.2.1, HL.out.1⟩
    simp only [netV, hA] at h
    exact h
  clear hbl hA
  go_wp2_with fail
  go_region_held3 (fun w' => w'.cell? ⟨X, 0, none⟩ = some (.slice n.calA n.cals.length n.calC) ∧ w'.cell? ⟨X, 1, none⟩ = some (.slice n.namA n.names.length n.namC) ∧ w'.cell? ⟨X, 2, none⟩ = some (.slice n.opA n.ops.length n.opC) ∧ w'.cell? ⟨X, 3, none⟩ = some (.slice (some ⟨b, off, none⟩) n.offs.length n.offC) ∧ w'.cell? ⟨X, 4, none⟩ = some (.slice n.linA n.lins.length n.linC) ∧ w'.cell? ⟨X, 5, none⟩ = some (.slice n.clsA n.clss.length n.clsC) ∧ w'.cell? ⟨b, off + i * 7, none⟩ = some (sV x.name) ∧ w'.cell? ⟨b, off + i * 7 + 1, none⟩ = some (iV x.op) ∧ w'.cell? ⟨b, off + i * 7 + 2, none⟩ = some (iV x.cal) ∧ w'.cell? ⟨b, off + i * 7 + 3, none⟩ = some (iV x.pockets) ∧ w'.cell? ⟨b, off + i * 7 + 4, none⟩ = some (iV x.passes) ∧ w'.cell? ⟨b, off + i * 7 + 5, none⟩ = some (iV x.minutes) ∧ w'.cell? ⟨b, off + i * 7 + 6, none⟩ = some (.slice x.cA x.codes.length x.cc)) (first | (with_reducible exact HS.out _ (b_drew (Below.refl _ _))) | (with_reducible exact HS.out _ HB.out)) ((go_at_call 194; refine (HCALL.out _ (b_drew (Below.refl _ _))).mono ?_; rintro e w2 ⟨rfl, hb⟩; have HB := Lib.hid (bdr hb); clear hb))
  go_wp2_with fail
  go_ret
  exact ⟨rfl, by have h := HB0.out; rw [← HX.out] at h; exact bt h HB.out⟩
set_option maxHeartbeats 4000000 in
set_option maxRecDepth 100000 in
theorem numbers_4 (n : Net) (i : Nat) (x : Lin) (w : World) (hn : NetIn w n) (hx : n.lins[i]? = some x) :
    Calls Tryz.prog 187 #[netV n, iV 4, iV i] w fun e w' => e = .returned (.bool (lineB n x)) ∧ Below w.heap.size w w' := by
  have hb0 := ba w (netO n)
  have hx0 := heap_alloc_new w (netO n)
  have HNP : Hid (NetP (w.alloc (netO n)) w.heap.size n) := ⟨fun i v hv => (cell_of_row _ _ _ _ _ _ hx0).trans hv, hn.below hb0⟩
  have HB0 := Lib.hid hb0
  have HL := Lib.hid hn.lens
  have hlen := hn.lens
  unfold maxLen at hlen
  clear hn hb0 hx0
  go_enter Tryz.func187, Tryz.ntmps187
  go_upto_region 1 with fail
  change Code.wp _ _ _ _ (w.alloc (netO n))
  generalize (w.alloc (netO n)) = W at *
  generalize hX : w.heap.size = X at *
  have HX := Lib.hid hX; clear hX
  have hI : True := trivial
  have HI := Lib.hid hI; clear hI
  obtain ⟨hlt, b, off, hA, hbl, hc0, hc⟩ := elem_at encLin_len HNP.out.net.lins hx (by omega)
  have n4 : W.cell? ⟨X, 4, none⟩ = some (.slice n.linA n.lins.length n.linC) := HNP.out.box 4 _ rfl
  rw [hA] at n4
  have n0 : W.cell? ⟨X, 0, none⟩ = some (.slice n.calA n.cals.length n.calC) := HNP.out.box 0 _ rfl
  have n1 : W.cell? ⟨X, 1, none⟩ = some (.slice n.namA n.names.length n.namC) := HNP.out.box 1 _ rfl
  have n2 : W.cell? ⟨X, 2, none⟩ = some (.slice n.opA n.ops.length n.opC) := HNP.out.box 2 _ rfl
  have n3 : W.cell? ⟨X, 3, none⟩ = some (.slice n.offA n.offs.length n.offC) := HNP.out.box 3 _ rfl
  have n5 : W.cell? ⟨X, 5, none⟩ = some (.slice n.clsA n.clss.length n.clsC) := HNP.out.box 5 _ rfl
  have x0 : W.cell? ⟨b, off + i * 6, none⟩ = some (sV x.name) := hc0 _ rfl
  have x1 : W.cell? ⟨b, off + i * 6 + 1, none⟩ = some (iV x.frm) := hc 1 _ rfl
  have x2 : W.cell? ⟨b, off + i * 6 + 2, none⟩ = some (iV x.to) := hc 2 _ rfl
  have x3 : W.cell? ⟨b, off + i * 6 + 3, none⟩ = some (iV x.at_) := hc 3 _ rfl
  have x4 : W.cell? ⟨b, off + i * 6 + 4, none⟩ = some (iV x.travel) := hc 4 _ rfl
  have x5 : W.cell? ⟨b, off + i * 6 + 5, none⟩ = some (iV x.load) := hc 5 _ rfl
  have j1 : (0 : Int) ≤ (i : Int) := by omega
  have j2 : (i : Int) < (n.lins.length : Int) := by omega
  clear hc0 hc hx
  have hXl := World.block_lt_of_cell? W _ n4
  have HS : Hid (∀ w', Below W.heap.size W w' → w'.cell? ⟨X, 0, none⟩ = some (.slice n.calA n.cals.length n.calC) ∧ w'.cell? ⟨X, 1, none⟩ = some (.slice n.namA n.names.length n.namC) ∧ w'.cell? ⟨X, 2, none⟩ = some (.slice n.opA n.ops.length n.opC) ∧ w'.cell? ⟨X, 3, none⟩ = some (.slice n.offA n.offs.length n.offC) ∧ w'.cell? ⟨X, 4, none⟩ = some (.slice (some ⟨b, off, none⟩) n.lins.length n.linC) ∧ w'.cell? ⟨X, 5, none⟩ = some (.slice n.clsA n.clss.length n.clsC) ∧ w'.cell? ⟨b, off + i * 6, none⟩ = some (sV x.name) ∧ w'.cell? ⟨b, off + i * 6 + 1, none⟩ = some (iV x.frm) ∧ w'.cell? ⟨b, off + i * 6 + 2, none⟩ = some (iV x.to) ∧ w'.cell? ⟨b, off + i * 6 + 3, none⟩ = some (iV x.at_) ∧ w'.cell? ⟨b, off + i * 6 + 4, none⟩ = some (iV x.travel) ∧ w'.cell? ⟨b, off + i * 6 + 5, none⟩ = some (iV x.load)) := fun w' hb => ⟨(hb.cell (p := ⟨X, 0, none⟩) hXl).trans n0, (hb.cell (p := ⟨X, 1, none⟩) hXl).trans n1, (hb.cell (p := ⟨X, 2, none⟩) hXl).trans n2, (hb.cell (p := ⟨X, 3, none⟩) hXl).trans n3, (hb.cell (p := ⟨X, 4, none⟩) hXl).trans n4, (hb.cell (p := ⟨X, 5, none⟩) hXl).trans n5, (hb.cell (p := ⟨b, _, none⟩) hbl).trans x0, (hb.cell (p := ⟨b, _, none⟩) hbl).trans x1, (hb.cell (p := ⟨b, _, none⟩) hbl).trans x2, (hb.cell (p := ⟨b, _, none⟩) hbl).trans x3, (hb.cell (p := ⟨b, _, none⟩) hbl).trans x4, (hb.cell (p := ⟨b, _, none⟩) hbl).trans x5⟩
  clear hXl
  have HCALL : Hid (∀ w', Below W.heap.size W w' → Calls Tryz.prog 195 #[.agg #[.slice n.calA n.cals.length n.calC, .slice n.namA n.names.length n.namC, .slice n.opA n.ops.length n.opC, .slice n.offA n.offs.length n.offC, .slice (some ⟨b, off, none⟩) n.lins.length n.linC, .slice n.clsA n.clss.length n.clsC], linV x] w' fun e w2 => e = .returned (.bool (lineB n x)) ∧ Below w'.heap.size w' w2) := fun w' hb => by
    have h := rline_any n x w' HL.out.2.2.2.1
    simp only [netV, hA] at h
    exact h
  clear hbl hA
  go_wp2_with fail
  go_region_held3 (fun w' => w'.cell? ⟨X, 0, none⟩ = some (.slice n.calA n.cals.length n.calC) ∧ w'.cell? ⟨X, 1, none⟩ = some (.slice n.namA n.names.length n.namC) ∧ w'.cell? ⟨X, 2, none⟩ = some (.slice n.opA n.ops.length n.opC) ∧ w'.cell? ⟨X, 3, none⟩ = some (.slice n.offA n.offs.length n.offC) ∧ w'.cell? ⟨X, 4, none⟩ = some (.slice (some ⟨b, off, none⟩) n.lins.length n.linC) ∧ w'.cell? ⟨X, 5, none⟩ = some (.slice n.clsA n.clss.length n.clsC) ∧ w'.cell? ⟨b, off + i * 6, none⟩ = some (sV x.name) ∧ w'.cell? ⟨b, off + i * 6 + 1, none⟩ = some (iV x.frm) ∧ w'.cell? ⟨b, off + i * 6 + 2, none⟩ = some (iV x.to) ∧ w'.cell? ⟨b, off + i * 6 + 3, none⟩ = some (iV x.at_) ∧ w'.cell? ⟨b, off + i * 6 + 4, none⟩ = some (iV x.travel) ∧ w'.cell? ⟨b, off + i * 6 + 5, none⟩ = some (iV x.load)) (first | (with_reducible exact HS.out _ (b_drew (Below.refl _ _))) | (with_reducible exact HS.out _ HB.out)) ((go_at_call 195; refine (HCALL.out _ (b_drew (Below.refl _ _))).mono ?_; rintro e w2 ⟨rfl, hb⟩; have HB := Lib.hid (bdr hb); clear hb))
  go_wp2_with fail
  go_ret
  exact ⟨rfl, by have h := HB0.out; rw [← HX.out] at h; exact bt h HB.out⟩
set_option maxHeartbeats 4000000 in
set_option maxRecDepth 100000 in
theorem numbers_5 (n : Net) (i : Nat) (x : Cls) (w : World) (hn : NetIn w n) (hx : n.clss[i]? = some x) :
    Calls Tryz.prog 187 #[netV n, iV 5, iV i] w fun e w' => e = .returned (.bool (clsB x)) ∧ Below w.heap.size w w' := by
  have hb0 := ba w (netO n)
  have hx0 := heap_alloc_new w (netO n)
  have HNP : Hid (NetP (w.alloc (netO n)) w.heap.size n) := ⟨fun i v hv => (cell_of_row _ _ _ _ _ _ hx0).trans hv, hn.below hb0⟩
  have HB0 := Lib.hid hb0
  have HL := Lib.hid hn.lens
  have hlen := hn.lens
  unfold maxLen at hlen
  clear hn hb0 hx0
  go_enter Tryz.func187, Tryz.ntmps187
  go_upto_region 1 with fail
  change Code.wp _ _ _ _ (w.alloc (netO n))
  generalize (w.alloc (netO n)) = W at *
  generalize hX : w.heap.size = X at *
  have HX := Lib.hid hX; clear hX
  have hI : True := trivial
  have HI := Lib.hid hI; clear hI
  obtain ⟨hlt, b, off, hA, hbl, hc0, hc⟩ := elem_at encCls_len HNP.out.net.clss hx (by omega)
  have n5 : W.cell? ⟨X, 5, none⟩ = some (.slice n.clsA n.clss.length n.clsC) := HNP.out.box 5 _ rfl
  rw [hA] at n5
  have x0 : W.cell? ⟨b, off + i * 3, none⟩ = some (sV x.name) := hc0 _ rfl
  have x1 : W.cell? ⟨b, off + i * 3 + 1, none⟩ = some (iV x.cut) := hc 1 _ rfl
  have x2 : W.cell? ⟨b, off + i * 3 + 2, none⟩ = some (iV x.deliver) := hc 2 _ rfl
  have j1 : (0 : Int) ≤ (i : Int) := by omega
  have j2 : (i : Int) < (n.clss.length : Int) := by omega
  clear hc0 hc hx
  clear hbl hA
  have HC : Hid (clsB x = (fromB x.cut 0 1439 && fromB x.deliver 0 1439)) := rfl
  have HB : Hid (Below w.heap.size w W) := by have h := HB0.out; rw [← HX.out] at h; exact h
  go_wp2_with fail
  refine (between_any _ _ _ _).mono ?_
  rintro e w2 ⟨rfl, rfl⟩
  cases hc : fromB x.cut 0 1439
  · rw [hc] at HC
    simp only [Bool.false_and] at HC
    go_wp2_with fail
    go_ret
    exact ⟨ret_bool HC.out.symm, HB.out⟩
  rw [hc] at HC
  simp only [Bool.true_and] at HC
  clear hc
  go_wp2_with fail
  refine (between_any _ _ _ _).mono ?_
  rintro e w2 ⟨rfl, rfl⟩
  go_wp2_with fail
  go_ret
  exact ⟨ret_bool HC.out.symm, HB.out⟩
set_option maxHeartbeats 4000000 in
theorem numbers_2 (n : Net) (i : Nat) (w : World) :
    Calls Tryz.prog 187 #[netV n, iV 2, iV i] w fun e w' => e = .returned (.bool true) ∧ Below w.heap.size w w' := by
  have HB0 := Lib.hid (ba w (netO n))
  go_enter Tryz.func187, Tryz.ntmps187
  go_wp2_with fail
  go_ret
  exact ⟨rfl, HB0.out⟩
end Go.Proofs.YtjpabeoflhkfkaaGreatDoor
namespace Go.Proofs.YtjpabeoflhkfkaaGreatDoor
open Go.RowKit

theorem names_any (K : Nat) (h1 : 1 ≤ K) (h2 : K ≤ 5) (n : Net) (w : World) (hn : NetIn w n) (hf : FewN n) :
    Calls Tryz.prog 136 #[netV n, iV K] w (NamesR w (nmsOf n K)) := by
  rcases (by omega : K = 1 ∨ K = 2 ∨ K = 3 ∨ K = 4 ∨ K = 5) with rfl | rfl | rfl | rfl | rfl
  · exact names_1 n w hn hf
  · exact names_2 n w hn hf
  · exact names_3 n w hn hf
  · exact names_4 n w hn hf
  · exact names_5 n w hn hf
def numB (n : Net) : Nat → Nat → Bool
  | 1, i => calB (n.cals.getD i zCal)
  | 2, _ => true
  | 3, i => officeB n (offAt n i)
  | 4, i => lineB n (linAt n i)
  | _, i => clsB (clsAt n i)
theorem nms_len (n : Net) : (nmsOf n 1).length = n.cals.length ∧ (nmsOf n 2).length = n.ops.length ∧ (nmsOf n 3).length = n.offs.length ∧ (nmsOf n 4).length = n.lins.length ∧ (nmsOf n 5).length = n.clss.length := by simp [nmsOf]
theorem numbers_any (K : Nat) (h1 : 1 ≤ K) (h2 : K ≤ 5) (n : Net) (i : Nat) (w : World) (hn : NetIn w n) (hi : i < (nmsOf n K).length) :
    Calls Tryz.prog 187 #[netV n, iV K, iV i] w fun e w' => e = .returned (.bool (numB n K i)) ∧ Below w.heap.size w w' := by
  obtain ⟨l1, l2, l3, l4, l5⟩ := nms_len n
  rcases (by omega : K = 1 ∨ K = 2 ∨ K = 3 ∨ K = 4 ∨ K = 5) with rfl | rfl | rfl | rfl | rfl
  · rw [l1] at hi
    exact numbers_1 n i _ w hn (by simp [List.getD, hi])
  · exact numbers_2 n i w
  · rw [l3] at hi
    exact numbers_3 n i _ w hn (offAt_get hi)
  · rw [l4] at hi
    exact numbers_4 n i _ w hn (linAt_get hi)
  · rw [l5] at hi
    exact numbers_5 n i _ w hn (clsAt_get hi)
def nmAt (n : Net) (K j : Nat) : List UInt8 := (nmsOf n K).getD j []
theorem nmAt_get {n : Net} {K j : Nat} (h : j < (nmsOf n K).length) : (nmsOf n K)[j]? = some (nmAt n K j) := by unfold nmAt; simp [List.getD, h]
/-- A thing without an error. -/
def ErrOk (n : Net) (K i : Nat) : Prop := nameB (nmAt n K i) = true ∧ freshB (nmAt n K) i = true ∧ numB n K i = true
theorem fresh_iff (nm : Nat → List UInt8) (i : Nat) : freshB nm i = true ↔ ∀ j < i, nm j ≠ nm i := by
  unfold freshB
  simp [List.all_eq_true]
set_option maxHeartbeats 8000000 in
set_option maxRecDepth 100000 in
theorem errno_any (K : Nat) (h1 : 1 ≤ K) (h2 : K ≤ 5) (n : Net) (A : Option Addr) (c i : Nat) (w : World) (hn : NetIn w n) (hi : i < (nmsOf n K).length) (hl : (nmsOf n K).length ≤ 50) (hs : ∀ s ∈ nmsOf n K, s.length ≤ maxLen) (hR : Rd w A ((nmsOf n K).map sV)) :
    Calls Tryz.prog 172 #[netV n, iV K, .slice A (nmsOf n K).length c, iV i] w fun e w' => ∃ v : Nat, e = .returned (iV v) ∧ v ≤ 4 ∧ (v = 0 ↔ ErrOk n K i) ∧ Below w.heap.size w w' := by
  have hb0 := ba w (netO n)
  have hx0 := heap_alloc_new w (netO n)
  have HNP : Hid (NetP (w.alloc (netO n)) w.heap.size n) := ⟨fun i v hv => (cell_of_row _ _ _ _ _ _ hx0).trans hv, hn.below hb0⟩
  have HB0 := Lib.hid hb0
  have HR := Lib.hid (hR.below hb0)
  have HS := Lib.hid hs
  have H1 := Lib.hid h1
  have H2 := Lib.hid h2
  have HI := Lib.hid hi
  clear hn hb0 hx0 hR hs h1 h2
  go_enter Tryz.func172, Tryz.ntmps172
  go_upto_region 1 with fail
  change Code.wp _ _ _ _ (w.alloc (netO n))
  generalize (w.alloc (netO n)) = W at *
  generalize hX : w.heap.size = X at *
  have HX := Lib.hid hX; clear hX
  have HXB : Hid (∀ wr, Below W.heap.size W wr → Below w.heap.size w wr) := fun wr hb => by
    have h := HB0.out
    rw [← HX.out] at h
    exact bt h hb
  obtain ⟨b, off, hA, -, hc⟩ := HR.out.get (i := i) (by rw [List.length_map]; exact hi)
  have HC : Hid (∀ wr, Below W.heap.size W wr → ∀ j, j < (nmsOf n K).length → wr.cell? ⟨b, off + j, none⟩ = some (sV (nmAt n K j))) := fun wr hb j hj => by
    obtain ⟨b', off', hA', -, hc'⟩ := (HR.out.below hb).get (i := j) (by rw [List.length_map]; exact hj)
    rw [hA] at hA'
    cases hA'
    exact hc' j _ (by rw [List.getElem?_map, nmAt_get hj]; rfl)
  have x0 := HC.out _ (Below.refl _ _) i hi
  have HNM : Hid ((nmAt n K i).length ≤ maxLen) := HS.out _ (List.mem_of_getElem? (nmAt_get hi))
  rw [hA]
  clear hc hA
  generalize hm : (nmsOf n K).length = m at *
  have HM := Lib.hid hm; clear hm
  have j1 : (0 : Int) ≤ (i : Int) := by omega
  have j2 : (i : Int) < (m : Int) := by omega
  go_wp2_with fail
  refine (rname_any _ _ HNM.out).mono ?_
  rintro e w2 ⟨rfl, hb⟩
  have HB := Lib.hid hb; clear hb x0
  cases hnb : nameB (nmAt n K i)
  case false =>
    have HF : Hid ((1 : Nat) = 0 ↔ ErrOk n K i) := ⟨fun h => by omega, fun h => by rw [h.1] at hnb; cases hnb⟩
    clear hnb
    go_wp2_with fail
    go_ret
    exact ⟨1, rfl, by omega, HF.out, HXB.out _ HB.out⟩
  have HNB := Lib.hid hnb; clear hnb
  go_wp2_with fail
  go_loopw [10] (fun k wr => ∃ j q : Nat, j ≤ i ∧ k = iV j ∧ wr = w2.drewN q ∧ Hid (∀ z, z < j → nmAt n K z ≠ nmAt n K i)) (fun k _ => 60 - (intOf k).toNat)
  case atStart => exact ⟨0, 0, by omega, rfl, rfl, fun z h => by omega⟩
  case round =>
    obtain ⟨j, q, hj, rfl, rfl, HQ⟩ := hrel
    have m0 : (0 : Int) ≤ (j : Int) := by omega
    by_cases hlt : j < i
    · have m1 : (j : Int) < (i : Int) := by omega
      have m2 : (j : Int) < (m : Int) := by omega
      have x1 : w2.cell? ⟨b, off + i, none⟩ = some (sV (nmAt n K i)) := HC.out _ HB.out i hi
      have x2 : w2.cell? ⟨b, off + j, none⟩ = some (sV (nmAt n K j)) := HC.out _ HB.out j (by omega)
      cases he : nmAt n K j == nmAt n K i
      case true =>
        have HF : Hid ((4 : Nat) = 0 ↔ ErrOk n K i) := ⟨fun h => by omega, fun h => absurd (by simpa using he) ((fresh_iff _ _).1 h.2.1 j hlt)⟩
        go_wp2_with fail
        go_quiet (fail)
        go_wp2_with fail
        go_ret
        exact ⟨4, rfl, by omega, HF.out, HXB.out _ (below_drewN (below_drewN HB.out _) _)⟩
      case false =>
        have HN : Hid (∀ z, z < j + 1 → nmAt n K z ≠ nmAt n K i) := fun z hz => by
          rcases Nat.lt_or_ge z j with h | h
          · exact HQ.out z h
          · obtain rfl : z = j := by omega
            simpa using he
        go_wp2_with fail
        go_quiet (fail)
        go_wp2_with fail
        go_roundw
        case rel => exact ⟨j + 1, _, by omega, by go_num, rfl, HN.out⟩
        case measure => simp [intOf]; omega
    · have m1 : ¬ (j : Int) < (i : Int) := by omega
      have HFR : Hid (freshB (nmAt n K) i = true) := (fresh_iff _ _).2 fun z hz => HQ.out z (by omega)
      have hnp := HNP.out.below (below_drewN HB.out q)
      have n0 : (w2.drewN q).cell? ⟨X, 0, none⟩ = some (.slice n.calA n.cals.length n.calC) := hnp.box 0 _ rfl
      have n1 : (w2.drewN q).cell? ⟨X, 1, none⟩ = some (.slice n.namA n.names.length n.namC) := hnp.box 1 _ rfl
      have n2 : (w2.drewN q).cell? ⟨X, 2, none⟩ = some (.slice n.opA n.ops.length n.opC) := hnp.box 2 _ rfl
      have n3 : (w2.drewN q).cell? ⟨X, 3, none⟩ = some (.slice n.offA n.offs.length n.offC) := hnp.box 3 _ rfl
      have n4 : (w2.drewN q).cell? ⟨X, 4, none⟩ = some (.slice n.linA n.lins.length n.linC) := hnp.box 4 _ rfl
      have n5 : (w2.drewN q).cell? ⟨X, 5, none⟩ = some (.slice n.clsA n.clss.length n.clsC) := hnp.box 5 _ rfl
      have HNI := Lib.hid hnp.net
      have HBQ : Hid (Below W.heap.size W (w2.drewN q)) := below_drewN HB.out q
      clear hnp
      generalize w2.drewN q = w3 at *
      go_wp2_with fail
      refine (numbers_any K H1.out H2.out n i _ HNI.out (by rw [HM.out]; exact hi)).mono ?_
      rintro e w4 ⟨rfl, hb⟩
      have HB2 := Lib.hid (bt HBQ.out hb); clear hb n0 n1 n2 n3 n4 n5
      cases hnu : numB n K i
      case false =>
        have HF : Hid ((1 : Nat) = 0 ↔ ErrOk n K i) := ⟨fun h => by omega, fun h => by rw [h.2.2] at hnu; cases hnu⟩
        clear hnu
        go_wp2_with fail
        go_ret
        exact ⟨1, rfl, by omega, HF.out, HXB.out _ HB2.out⟩
      case true =>
        have HF : Hid (ErrOk n K i) := ⟨HNB.out, HFR.out, hnu⟩
        clear hnu
        go_wp2_with fail
        go_ret
        exact ⟨0, rfl, by omega, ⟨fun _ => HF.out, fun _ => rfl⟩, HXB.out _ HB2.out⟩
end Go.Proofs.YtjpabeoflhkfkaaGreatDoor
namespace Go.Proofs.YtjpabeoflhkfkaaGreatDoor
open Go.RowKit

/-- A kind without a fault. -/
def KindOk (n : Net) (K : Nat) : Prop := (nmsOf n K).length ≤ limB K ∧ ∀ i < (nmsOf n K).length, ErrOk n K i
theorem nms_few {n : Net} (hf : FewN n) {K : Nat} (h1 : 1 ≤ K) (h2 : K ≤ 5) : (nmsOf n K).length ≤ 50 := by
  obtain ⟨l1, l2, l3, l4, l5⟩ := nms_len n
  obtain ⟨f1, f2, f3, f4, f5, f6⟩ := hf
  rcases (by omega : K = 1 ∨ K = 2 ∨ K = 3 ∨ K = 4 ∨ K = 5) with rfl | rfl | rfl | rfl | rfl <;> omega
theorem nms_short {w : World} {n : Net} (hn : NetIn w n) {K : Nat} (h1 : 1 ≤ K) (h2 : K ≤ 5) : ∀ s ∈ nmsOf n K, s.length ≤ maxLen := by
  obtain ⟨g1, g2, g3, g4, g5⟩ := nm_len hn
  rcases (by omega : K = 1 ∨ K = 2 ∨ K = 3 ∨ K = 4 ∨ K = 5) with rfl | rfl | rfl | rfl | rfl <;> intro s hs
  · obtain ⟨i, -, rfl⟩ := List.mem_map.1 hs
    exact g1 i
  · exact hn.op s hs
  · obtain ⟨o, ho, rfl⟩ := List.mem_map.1 hs
    exact (hn.off o ho).1.1
  · obtain ⟨o, ho, rfl⟩ := List.mem_map.1 hs
    exact (hn.lin o ho).1
  · obtain ⟨o, ho, rfl⟩ := List.mem_map.1 hs
    exact (hn.cls o ho).1
theorem okAt_iff {α : Type} {n : Net} {K i : Nat} {nm : Nat → List UInt8} {gd : α → Bool} {L : List α} {x : α} (hnm : ∀ j, j ≤ i → nmAt n K j = nm j) (hx : L[i]? = some x) (hg : numB n K i = gd x) : ErrOk n K i ↔ okAt nm gd L i := by
  unfold ErrOk okAt
  rw [hg, hnm i (Nat.le_refl _), fresh_iff, fresh_iff]
  constructor
  · rintro ⟨a, b, c⟩
    refine ⟨a, fun j hj => by rw [← hnm j (Nat.le_of_lt hj), ← hnm i (Nat.le_refl _)]; exact b j hj, fun y hy => ?_⟩
    rw [hx] at hy
    cases hy
    exact c
  · rintro ⟨a, b, c⟩
    exact ⟨a, fun j hj => by rw [hnm j (Nat.le_of_lt hj), hnm i (Nat.le_refl _)]; exact b j hj, c x hx⟩
theorem kinds_cons {n : Net} : (n.names.length = n.cals.length ∧ ∀ K, 1 ≤ K → K ≤ 5 → KindOk n K) ↔ Cons n := by
  obtain ⟨l1, l2, l3, l4, l5⟩ := nms_len n
  have e1 : ∀ i < n.cals.length, ErrOk n 1 i ↔ okAt (nmCal n) calB n.cals i := fun i hi => okAt_iff (fun j hj => by unfold nmAt nmsOf; simp [List.getD, show j < n.cals.length by omega]) (List.getElem?_eq_getElem hi) (by simp [numB, List.getD, hi])
  have e2 : ∀ i < n.ops.length, ErrOk n 2 i ↔ okAt (nmOp n) (fun _ => true) n.ops i := fun i hi => okAt_iff (fun j hj => rfl) (List.getElem?_eq_getElem hi) rfl
  have e3 : ∀ i < n.offs.length, ErrOk n 3 i ↔ okAt (nmOff n) (officeB n) n.offs i := fun i hi => okAt_iff (fun j hj => by unfold nmAt nmsOf nmOff offAt; simp [List.getD, show j < n.offs.length by omega]) (offAt_get hi) rfl
  have e4 : ∀ i < n.lins.length, ErrOk n 4 i ↔ okAt (nmLin n) (lineB n) n.lins i := fun i hi => okAt_iff (fun j hj => by unfold nmAt nmsOf nmLin linAt; simp [List.getD, show j < n.lins.length by omega]) (linAt_get hi) rfl
  have e5 : ∀ i < n.clss.length, ErrOk n 5 i ↔ okAt (nmCls n) clsB n.clss i := fun i hi => okAt_iff (fun j hj => by unfold nmAt nmsOf nmCls clsAt; simp [List.getD, show j < n.clss.length by omega]) (clsAt_get hi) rfl
  constructor
  · rintro ⟨h0, h⟩
    have k1 := h 1 (by omega) (by omega)
    have k2 := h 2 (by omega) (by omega)
    have k3 := h 3 (by omega) (by omega)
    have k4 := h 4 (by omega) (by omega)
    have k5 := h 5 (by omega) (by omega)
    unfold KindOk at k1 k2 k3 k4 k5
    rw [l1] at k1
    rw [l2] at k2
    rw [l3] at k3
    rw [l4] at k4
    rw [l5] at k5
    exact ⟨h0, ⟨k1.1, fun i hi => (e1 i hi).1 (k1.2 i hi)⟩, ⟨k2.1, fun i hi => (e2 i hi).1 (k2.2 i hi)⟩, ⟨k3.1, fun i hi => (e3 i hi).1 (k3.2 i hi)⟩, ⟨k4.1, fun i hi => (e4 i hi).1 (k4.2 i hi)⟩, ⟨k5.1, fun i hi => (e5 i hi).1 (k5.2 i hi)⟩⟩
  · intro h
    refine ⟨h.same, fun K a b => ?_⟩
    unfold KindOk
    rcases (by omega : K = 1 ∨ K = 2 ∨ K = 3 ∨ K = 4 ∨ K = 5) with rfl | rfl | rfl | rfl | rfl
    · rw [l1]; exact ⟨h.cal.1, fun i hi => (e1 i hi).2 (h.cal.2 i hi)⟩
    · rw [l2]; exact ⟨h.op.1, fun i hi => (e2 i hi).2 (h.op.2 i hi)⟩
    · rw [l3]; exact ⟨h.off.1, fun i hi => (e3 i hi).2 (h.off.2 i hi)⟩
    · rw [l4]; exact ⟨h.lin.1, fun i hi => (e4 i hi).2 (h.lin.2 i hi)⟩
    · rw [l5]; exact ⟨h.cls.1, fun i hi => (e5 i hi).2 (h.cls.2 i hi)⟩
theorem lim_le {K : Nat} (h1 : 1 ≤ K) (h2 : K ≤ 5) : limB K ≤ 40 := by
  rcases (by omega : K = 1 ∨ K = 2 ∨ K = 3 ∨ K = 4 ∨ K = 5) with rfl | rfl | rfl | rfl | rfl <;> decide
set_option maxHeartbeats 8000000 in
set_option maxRecDepth 100000 in
theorem faults_any (n : Net) (w : World) (hn : NetIn w n) (hf : FewN n) :
    Calls Tryz.prog 137 #[netV n] w (InconR w (Cons n)) := by
  obtain ⟨i0, hi0, hz0, hz1, hz2⟩ := info_parts ftInfo
  have hb0 := ba w (netO n)
  have hx0 := heap_alloc_new w (netO n)
  have hl := hn.lens
  unfold maxLen at hl
  have HNP : Hid (NetP (w.alloc (netO n)) w.heap.size n) := ⟨fun i v hv => (cell_of_row _ _ _ _ _ _ hx0).trans hv, hn.below hb0⟩
  have HNW := Lib.hid hn
  have HF := Lib.hid hf
  have HB0 := Lib.hid hb0
  have HWL : Hid (w.heap.size + 1 ≤ (w.alloc (netO n)).heap.size) := block_lt hx0
  clear hn hf hb0 hx0
  by_cases hsame : n.names.length = n.cals.length
  · have s1 : ((n.names.length : Int) != (n.cals.length : Int)) = false := by simp; omega
    have s2 : ((n.names.length : Int) == (n.cals.length : Int)) = true := by simp; omega
    have HS := Lib.hid hsame; clear hsame
    go_enter Tryz.func137, Tryz.ntmps137
    go_upto_region 1 with fail
    change Code.wp _ _ _ _ (w.alloc (netO n))
    generalize (w.alloc (netO n)) = W at *
    generalize hX : w.heap.size = X at *
    have HX := Lib.hid hX; clear hX
    have HNB : Hid (∀ wr, Below (X + 1) W wr → Below w.heap.size w wr ∧ NetP wr X n) := fun wr hb => box_keep HNW.out HX.out HB0.out HNP.out.box hb
    have n0 : W.cell? ⟨X, 0, none⟩ = some (.slice n.calA n.cals.length n.calC) := HNP.out.box 0 _ rfl
    have n1 : W.cell? ⟨X, 1, none⟩ = some (.slice n.namA n.names.length n.namC) := HNP.out.box 1 _ rfl
    have HO0 : Hid (W.ownsRow (X + 1) 138 3 (.slice none 0 0) 0 []) := World.ownsRow_nil _ _ _ _
    have HBB0 : Hid (Below (X + 1) W W) := Below.refl _ _
    have HI0 : Hid (∀ x ∈ ([] : List Value), x.oneCell' = true) := fun x hx => by cases hx
    have HQ0 : Hid (∀ z : Nat, z = 0 → (z = 0 ↔ n.names.length = n.cals.length ∧ ∀ k, 1 ≤ k → k < 1 → KindOk n k)) := fun z hz => ⟨fun _ => ⟨HS.out, fun k a b => by omega⟩, fun _ => hz⟩
    go_wp2_with fail
    clear n0 n1 s1 s2
    go_loopw [4, 3] (fun kd v wr => ∃ (K m : Nat) (xs : List Value), 1 ≤ K ∧ K ≤ 6 ∧ m + 50 ≤ 51 * K ∧ kd = iV K ∧ Hid (wr.ownsRow (X + 1) 138 3 v m xs) ∧ Hid (∀ x ∈ xs, x.oneCell' = true) ∧ Hid (Below (X + 1) W wr) ∧ Hid (m = 0 ↔ n.names.length = n.cals.length ∧ ∀ k, 1 ≤ k → k < K → KindOk n k)) (fun kd _ _ => 7 - (intOf kd).toNat)
    case atStart => exact ⟨1, _, _, by omega, by omega, by omega, rfl, HO0.out, HI0.out, HBB0.out, HQ0.out _ rfl⟩
    case round =>
      obtain ⟨K, m, xs, hK1, hK2, hm, rfl, HO, HI, HB, HQ⟩ := hrel
      obtain ⟨A2, c2, rfl⟩ := own_form HO.out
      by_cases hK : K ≤ 5
      · have k1 : (K : Int) ≤ 5 := by omega
        have n0 : wr.cell? ⟨X, 0, none⟩ = some (.slice n.calA n.cals.length n.calC) := (HNB.out _ HB.out).2.box 0 _ rfl
        have n1 : wr.cell? ⟨X, 1, none⟩ = some (.slice n.namA n.names.length n.namC) := (HNB.out _ HB.out).2.box 1 _ rfl
        have n2 : wr.cell? ⟨X, 2, none⟩ = some (.slice n.opA n.ops.length n.opC) := (HNB.out _ HB.out).2.box 2 _ rfl
        have n3 : wr.cell? ⟨X, 3, none⟩ = some (.slice n.offA n.offs.length n.offC) := (HNB.out _ HB.out).2.box 3 _ rfl
        have n4 : wr.cell? ⟨X, 4, none⟩ = some (.slice n.linA n.lins.length n.linC) := (HNB.out _ HB.out).2.box 4 _ rfl
        have n5 : wr.cell? ⟨X, 5, none⟩ = some (.slice n.clsA n.clss.length n.clsC) := (HNB.out _ HB.out).2.box 5 _ rfl
        go_wp2_with fail
        refine (names_any K hK1 hK n _ (HNB.out _ HB.out).2.net HF.out).mono ?_
        rintro e w2 ⟨A3, c3, rfl, hr, hfr, hb⟩
        have HRD := Lib.hid hr
        have HB2 : Hid (Below (X + 1) W w2) := HB.out.trans (hb.mono (Nat.le_trans HWL.out HB.out.size))
        have HO2 := Lib.hid (own_below HO.out hb)
        have HAP : Hid (∀ a, A3 = some a → (Value.slice A2 m c2).ownBlock ≠ some a.block) := fun a ha h => by
          have h1 := HO.out.lt _ h
          have h2 := hfr a ha
          omega
        have HAL : Hid (∀ a, A3 = some a → a.block < w2.heap.size) := fun a ha => (hfr a ha).2
        have hlen := nms_few HF.out hK1 hK
        have hlim := lim_le hK1 hK
        have HK1 := Lib.hid hK1
        have HK5 := Lib.hid hK
        clear hr hfr hb n0 n1 n2 n3 n4 n5
        go_wp2_with fail
        go_loopw [6, 3] (fun i v wq => ∃ (k p : Nat) (ys : List Value), k ≤ (nmsOf n K).length ∧ k ≤ limB K ∧ p ≤ m + k ∧ i = iV k ∧ Hid (wq.ownsRow (X + 1) 138 3 v p ys) ∧ Hid (∀ x ∈ ys, x.oneCell' = true) ∧ Hid (Below (X + 1) W wq) ∧ Hid (Rd wq A3 ((nmsOf n K).map sV)) ∧ Hid (∀ a, A3 = some a → v.ownBlock ≠ some a.block ∧ a.block < wq.heap.size) ∧ Hid (p = 0 ↔ m = 0 ∧ ∀ j < k, ErrOk n K j)) (fun i _ _ => 60 - (intOf i).toNat)
        case atStart => exact ⟨0, m, xs, by omega, by omega, by omega, rfl, HO2.out, HI.out, HB2.out, HRD.out, (fun a ha => ⟨HAP.out a ha, HAL.out a ha⟩), ⟨fun h => ⟨h, fun j hj => by omega⟩, fun h => h.1⟩⟩
        case round =>
          clear HRD HB2 HO2 HAP HAL
          obtain ⟨k, p, ys, hk1, hk2, hp, rfl, HO, HI, HB, HRD, HAP, HQ2⟩ := hrel
          obtain ⟨A4, c4, rfl⟩ := own_form HO.out
          have m0 : (0 : Int) ≤ (k : Int) := by omega
          by_cases hkl : k < (nmsOf n K).length
          · have m1 : (k : Int) < ((nmsOf n K).length : Int) := by omega
            by_cases hkm : k < limB K
            · have m2 : (k : Int) < (limB K : Int) := by omega
              go_wp2_with fail
              refine (limit_any K HK1.out HK5.out _).mono ?_
              rintro e w3 ⟨rfl, rfl⟩
              have n0 : wr.cell? ⟨X, 0, none⟩ = some (.slice n.calA n.cals.length n.calC) := (HNB.out _ HB.out).2.box 0 _ rfl
              have n1 : wr.cell? ⟨X, 1, none⟩ = some (.slice n.namA n.names.length n.namC) := (HNB.out _ HB.out).2.box 1 _ rfl
              have n2 : wr.cell? ⟨X, 2, none⟩ = some (.slice n.opA n.ops.length n.opC) := (HNB.out _ HB.out).2.box 2 _ rfl
              have n3 : wr.cell? ⟨X, 3, none⟩ = some (.slice n.offA n.offs.length n.offC) := (HNB.out _ HB.out).2.box 3 _ rfl
              have n4 : wr.cell? ⟨X, 4, none⟩ = some (.slice n.linA n.lins.length n.linC) := (HNB.out _ HB.out).2.box 4 _ rfl
              have n5 : wr.cell? ⟨X, 5, none⟩ = some (.slice n.clsA n.clss.length n.clsC) := (HNB.out _ HB.out).2.box 5 _ rfl
              go_wp2_with fail
              refine (errno_any K HK1.out HK5.out n A3 c3 k _ (HNB.out _ HB.out).2.net hkl hlen (nms_short (HNB.out _ HB.out).2.net HK1.out HK5.out) HRD.out).mono ?_
              rintro e w3 ⟨v, rfl, hv4, hv, hb⟩
              have HV := Lib.hid hv
              have HB3 : Hid (Below (X + 1) W w3) := HB.out.trans (hb.mono (Nat.le_trans HWL.out HB.out.size))
              have HO3 := Lib.hid (own_below HO.out hb)
              have HRD3 := Lib.hid (HRD.out.below hb)
              have HAP3 : Hid (∀ a, A3 = some a → (Value.slice A4 p c4).ownBlock ≠ some a.block ∧ a.block < w3.heap.size) := fun a ha => ⟨(HAP.out a ha).1, Nat.lt_of_lt_of_le (HAP.out a ha).2 hb.size⟩
              clear hv hb n0 n1 n2 n3 n4 n5 HO HB HRD HAP
              by_cases hv0 : v = 0
              · subst hv0
                have HQ3 : Hid (p = 0 ↔ m = 0 ∧ ∀ j < k + 1, ErrOk n K j) := HQ2.out.trans ⟨fun h => ⟨h.1, fun j hj => by
                  rcases Nat.lt_or_ge j k with h1 | h1
                  · exact h.2 j h1
                  · obtain rfl : j = k := by omega
                    exact HV.out.1 rfl⟩, fun h => ⟨h.1, fun j hj => h.2 j (by omega)⟩⟩
                go_wp2_with fail
                go_roundw
                case rel => exact ⟨k + 1, p, ys, by omega, by omega, by omega, by go_num, HO3.out, HI.out, HB3.out, HRD3.out, HAP3.out, HQ3.out⟩
                case measure => simp [intOf]; omega
              · have v1 : ((v : Int) != 0) = true := by simp; omega
                have v2 : ((v : Int) == 0) = false := by simp; omega
                have HQ3 : Hid (p + 1 = 0 ↔ m = 0 ∧ ∀ j < k + 1, ErrOk n K j) := ⟨fun h => by omega, fun h => absurd (HV.out.2 (h.2 k (by omega))) hv0⟩
                clear hv0
                go_wp2_with (refine wpList_app (by rfl) (.tmp 45) (.tmp 50) 80 80 (by rfl) (X + 1) 138 i0 _ 3 24 Tryz.underlying80 hi0 hz0 hz1 hz2 (by rfl) _ p ys (by rfl) (HO3.out.alloc (.cells #[iV K, iV k, iV v] 138)) _ (by rfl) 1 [iV K, iV k, iV v] (src_k 3 Tryz.underlying80 (Rd.new _ [iV K, iV k, iV v] _) rfl (by simp [Value.oneCell'])) (by unfold maxLen; omega) (by omega) (by have := HWL.out; have := HB3.out.size; simp; omega) ?_; intro A5 c5 w4 ho hgr hbl; have HO4 := Lib.hid ho; have HB4 := Lib.hid (app_below (HB3.out.alloc (Nat.le_trans HWL.out HB3.out.size) _) HWL.out (HO3.out.alloc _) (Nat.le_refl _) hgr); have HRD4 : Hid (Rd w4 A3 ((nmsOf n K).map sV)) := (HRD3.out.below (ba _ (.cells #[iV K, iV k, iV v] 138))).same hgr.size (fun a ha hlt => hgr.block _ hlt (fun e => (HAP3.out a ha).1 e.symm)); have HAP4 : Hid (∀ a, A3 = some a → (Value.slice A5 (p + 1) c5).ownBlock ≠ some a.block ∧ a.block < w4.heap.size) := (fun a ha => ⟨own_ne hbl (HAP3.out a ha).1 (by have := (HAP3.out a ha).2; simp; omega), Nat.lt_of_lt_of_le (HAP3.out a ha).2 (Nat.le_trans (by simp) hgr.size)⟩); clear ho hgr hbl)
                go_roundw
                case rel => exact ⟨k + 1, p + 1, ys ++ [iV K, iV k, iV v], by omega, by omega, by omega, by go_num, HO4.out, one3 HI.out, HB4.out, HRD4.out, HAP4.out, HQ3.out⟩
                case measure => simp [intOf]; omega
            · have m2 : ¬ (k : Int) < (limB K : Int) := by omega
              have m3 : ((nmsOf n K).length : Int) > (limB K : Int) := by omega
              have m4 : (limB K : Int) < ((nmsOf n K).length : Int) := by omega
              have HQ3 : Hid (p + 1 = 0 ↔ n.names.length = n.cals.length ∧ ∀ k, 1 ≤ k → k < K + 1 → KindOk n k) := ⟨fun h => by omega, fun h => by have := (h.2 K HK1.out (by omega)).1; omega⟩
              go_wp2_with fail
              refine (limit_any K HK1.out HK5.out _).mono ?_
              rintro e w3 ⟨rfl, rfl⟩
              go_wp2_with fail
              refine (limit_any K HK1.out HK5.out _).mono ?_
              rintro e w3 ⟨rfl, rfl⟩
              go_wp2_with fail
              refine (limit_any K HK1.out HK5.out _).mono ?_
              rintro e w3 ⟨rfl, rfl⟩
              go_wp2_with (refine wpList_app (by rfl) (.tmp 57) (.tmp 62) 80 80 (by rfl) (X + 1) 138 i0 _ 3 24 Tryz.underlying80 hi0 hz0 hz1 hz2 (by rfl) _ p ys (by rfl) (HO.out.alloc (.cells #[iV K, iV (limB K), iV 2] 138)) _ (by rfl) 1 [iV K, iV (limB K), iV 2] (src_k 3 Tryz.underlying80 (Rd.new _ [iV K, iV (limB K), iV 2] _) rfl (by simp [Value.oneCell'])) (by unfold maxLen; omega) (by omega) (by have := HWL.out; have := HB.out.size; simp; omega) ?_; intro A5 c5 w4 ho hgr hbl; have HO4 := Lib.hid ho; have HB4 := Lib.hid (app_below (HB.out.alloc (Nat.le_trans HWL.out HB.out.size) _) HWL.out (HO.out.alloc _) (Nat.le_refl _) hgr); clear ho hgr hbl)
              go_roundw
              case rel => exact ⟨K + 1, p + 1, ys ++ [iV K, iV (limB K), iV 2], by omega, by omega, by omega, by go_num, HO4.out, one3 HI.out, HB4.out, HQ3.out⟩
              case measure => simp [intOf]; omega
          · have m1 : ¬ (k : Int) < ((nmsOf n K).length : Int) := by omega
            have m4 : ¬ (limB K : Int) < ((nmsOf n K).length : Int) := by omega
            have HQ3 : Hid (p = 0 ↔ n.names.length = n.cals.length ∧ ∀ k, 1 ≤ k → k < K + 1 → KindOk n k) := HQ2.out.trans ⟨fun h => by
              have h2 := HQ.out.1 h.1
              refine ⟨h2.1, fun j h3 h4 => ?_⟩
              rcases Nat.lt_or_ge j K with h5 | h5
              · exact h2.2 j h3 h5
              · obtain rfl : j = K := by omega
                exact ⟨by omega, fun i hi => h.2 i (by omega)⟩, fun h => ⟨HQ.out.2 ⟨h.1, fun j h3 h4 => h.2 j h3 (by omega)⟩, fun j hj => (h.2 K HK1.out (by omega)).2 j (by omega)⟩⟩
            go_wp2_with fail
            refine (limit_any K HK1.out HK5.out _).mono ?_
            rintro e w3 ⟨rfl, rfl⟩
            go_wp2_with fail
            go_roundw
            case rel => exact ⟨K + 1, p, ys, by omega, by omega, by omega, by go_num, HO.out, HI.out, HB.out, HQ3.out⟩
            case measure => simp [intOf]; omega
      · have k1 : ¬ (K : Int) ≤ 5 := by omega
        obtain rfl : K = 6 := by omega
        go_wp2_with fail
        go_ret
        exact ⟨A2, m, c2, xs, rfl, own_base HO.out (by have := HX.out; omega), HI.out, HQ.out.trans ⟨fun h => kinds_cons.1 ⟨h.1, fun k a b => h.2 k a (by omega)⟩, fun h => ⟨h.same, fun k a b => (kinds_cons.2 h).2 k a (by omega)⟩⟩, by omega, (HNB.out _ HB.out).1⟩
  · have s1 : ((n.names.length : Int) != (n.cals.length : Int)) = true := by simp; omega
    have s2 : ((n.names.length : Int) == (n.cals.length : Int)) = false := by simp; omega
    have HS := Lib.hid hsame; clear hsame
    go_enter Tryz.func137, Tryz.ntmps137
    go_upto_region 1 with fail
    change Code.wp _ _ _ _ (w.alloc (netO n))
    generalize (w.alloc (netO n)) = W at *
    generalize hX : w.heap.size = X at *
    have HX := Lib.hid hX; clear hX
    have HNB : Hid (∀ wr, Below (X + 1) W wr → Below w.heap.size w wr ∧ NetP wr X n) := fun wr hb => box_keep HNW.out HX.out HB0.out HNP.out.box hb
    have n0 : W.cell? ⟨X, 0, none⟩ = some (.slice n.calA n.cals.length n.calC) := HNP.out.box 0 _ rfl
    have n1 : W.cell? ⟨X, 1, none⟩ = some (.slice n.namA n.names.length n.namC) := HNP.out.box 1 _ rfl
    go_wp2_with (refine wpList_app (by rfl) (.tmp 15) (.tmp 17) 80 80 (by rfl) (X + 1) 138 i0 _ 3 24 Tryz.underlying80 hi0 hz0 hz1 hz2 (by rfl) _ 0 [] (by rfl) (World.ownsRow_nil _ _ _ _) _ (by rfl) 1 [iV 1, iV (-1), iV 1] (src_k 3 Tryz.underlying80 (Rd.new _ [iV 1, iV (-1), iV 1] _) rfl (by simp [Value.oneCell'])) (by unfold maxLen; omega) (by omega) (by have := HWL.out; simp; omega) ?_; intro A0 c0 w0 ho hgr hbl; have HO0 := Lib.hid ho; have HBB0 := Lib.hid (app_below ((Below.refl (X + 1) W).alloc HWL.out _) HWL.out (World.ownsRow_nil _ (X + 1) 138 3) (Nat.le_refl _) hgr); clear ho hgr hbl)
    have HI0 : Hid (∀ x ∈ ([] ++ [iV 1, iV (-1), iV 1] : List Value), x.oneCell' = true) := by
      intro x hx
      simp at hx
      rcases hx with rfl | rfl | rfl <;> rfl
    have HQ0 : Hid (∀ z : Nat, z = 0 + 1 → (z = 0 ↔ n.names.length = n.cals.length ∧ ∀ k, 1 ≤ k → k < 1 → KindOk n k)) := fun z hz => ⟨fun h => by omega, fun h => absurd h.1 HS.out⟩
    clear n0 n1 s1 s2
    go_loopw [4, 3] (fun kd v wr => ∃ (K m : Nat) (xs : List Value), 1 ≤ K ∧ K ≤ 6 ∧ m + 50 ≤ 51 * K ∧ kd = iV K ∧ Hid (wr.ownsRow (X + 1) 138 3 v m xs) ∧ Hid (∀ x ∈ xs, x.oneCell' = true) ∧ Hid (Below (X + 1) W wr) ∧ Hid (m = 0 ↔ n.names.length = n.cals.length ∧ ∀ k, 1 ≤ k → k < K → KindOk n k)) (fun kd _ _ => 7 - (intOf kd).toNat)
    case atStart => exact ⟨1, _, _, by omega, by omega, by omega, rfl, HO0.out, HI0.out, HBB0.out, HQ0.out _ rfl⟩
    case round =>
      obtain ⟨K, m, xs, hK1, hK2, hm, rfl, HO, HI, HB, HQ⟩ := hrel
      obtain ⟨A2, c2, rfl⟩ := own_form HO.out
      by_cases hK : K ≤ 5
      · have k1 : (K : Int) ≤ 5 := by omega
        have n0 : wr.cell? ⟨X, 0, none⟩ = some (.slice n.calA n.cals.length n.calC) := (HNB.out _ HB.out).2.box 0 _ rfl
        have n1 : wr.cell? ⟨X, 1, none⟩ = some (.slice n.namA n.names.length n.namC) := (HNB.out _ HB.out).2.box 1 _ rfl
        have n2 : wr.cell? ⟨X, 2, none⟩ = some (.slice n.opA n.ops.length n.opC) := (HNB.out _ HB.out).2.box 2 _ rfl
        have n3 : wr.cell? ⟨X, 3, none⟩ = some (.slice n.offA n.offs.length n.offC) := (HNB.out _ HB.out).2.box 3 _ rfl
        have n4 : wr.cell? ⟨X, 4, none⟩ = some (.slice n.linA n.lins.length n.linC) := (HNB.out _ HB.out).2.box 4 _ rfl
        have n5 : wr.cell? ⟨X, 5, none⟩ = some (.slice n.clsA n.clss.length n.clsC) := (HNB.out _ HB.out).2.box 5 _ rfl
        go_wp2_with fail
        refine (names_any K hK1 hK n _ (HNB.out _ HB.out).2.net HF.out).mono ?_
        rintro e w2 ⟨A3, c3, rfl, hr, hfr, hb⟩
        have HRD := Lib.hid hr
        have HB2 : Hid (Below (X + 1) W w2) := HB.out.trans (hb.mono (Nat.le_trans HWL.out HB.out.size))
        have HO2 := Lib.hid (own_below HO.out hb)
        have HAP : Hid (∀ a, A3 = some a → (Value.slice A2 m c2).ownBlock ≠ some a.block) := fun a ha h => by
          have h1 := HO.out.lt _ h
          have h2 := hfr a ha
          omega
        have HAL : Hid (∀ a, A3 = some a → a.block < w2.heap.size) := fun a ha => (hfr a ha).2
        have hlen := nms_few HF.out hK1 hK
        have hlim := lim_le hK1 hK
        have HK1 := Lib.hid hK1
        have HK5 := Lib.hid hK
        clear hr hfr hb n0 n1 n2 n3 n4 n5
        go_wp2_with fail
        go_loopw [6, 3] (fun i v wq => ∃ (k p : Nat) (ys : List Value), k ≤ (nmsOf n K).length ∧ k ≤ limB K ∧ p ≤ m + k ∧ i = iV k ∧ Hid (wq.ownsRow (X + 1) 138 3 v p ys) ∧ Hid (∀ x ∈ ys, x.oneCell' = true) ∧ Hid (Below (X + 1) W wq) ∧ Hid (Rd wq A3 ((nmsOf n K).map sV)) ∧ Hid (∀ a, A3 = some a → v.ownBlock ≠ some a.block ∧ a.block < wq.heap.size) ∧ Hid (p = 0 ↔ m = 0 ∧ ∀ j < k, ErrOk n K j)) (fun i _ _ => 60 - (intOf i).toNat)
        case atStart => exact ⟨0, m, xs, by omega, by omega, by omega, rfl, HO2.out, HI.out, HB2.out, HRD.out, (fun a ha => ⟨HAP.out a ha, HAL.out a ha⟩), ⟨fun h => ⟨h, fun j hj => by omega⟩, fun h => h.1⟩⟩
        case round =>
          clear HRD HB2 HO2 HAP HAL
          obtain ⟨k, p, ys, hk1, hk2, hp, rfl, HO, HI, HB, HRD, HAP, HQ2⟩ := hrel
          obtain ⟨A4, c4, rfl⟩ := own_form HO.out
          have m0 : (0 : Int) ≤ (k : Int) := by omega
          by_cases hkl : k < (nmsOf n K).length
          · have m1 : (k : Int) < ((nmsOf n K).length : Int) := by omega
            by_cases hkm : k < limB K
            · have m2 : (k : Int) < (limB K : Int) := by omega
              go_wp2_with fail
              refine (limit_any K HK1.out HK5.out _).mono ?_
              rintro e w3 ⟨rfl, rfl⟩
              have n0 : wr.cell? ⟨X, 0, none⟩ = some (.slice n.calA n.cals.length n.calC) := (HNB.out _ HB.out).2.box 0 _ rfl
              have n1 : wr.cell? ⟨X, 1, none⟩ = some (.slice n.namA n.names.length n.namC) := (HNB.out _ HB.out).2.box 1 _ rfl
              have n2 : wr.cell? ⟨X, 2, none⟩ = some (.slice n.opA n.ops.length n.opC) := (HNB.out _ HB.out).2.box 2 _ rfl
              have n3 : wr.cell? ⟨X, 3, none⟩ = some (.slice n.offA n.offs.length n.offC) := (HNB.out _ HB.out).2.box 3 _ rfl
              have n4 : wr.cell? ⟨X, 4, none⟩ = some (.slice n.linA n.lins.length n.linC) := (HNB.out _ HB.out).2.box 4 _ rfl
              have n5 : wr.cell? ⟨X, 5, none⟩ = some (.slice n.clsA n.clss.length n.clsC) := (HNB.out _ HB.out).2.box 5 _ rfl
              go_wp2_with fail
              refine (errno_any K HK1.out HK5.out n A3 c3 k _ (HNB.out _ HB.out).2.net hkl hlen (nms_short (HNB.out _ HB.out).2.net HK1.out HK5.out) HRD.out).mono ?_
              rintro e w3 ⟨v, rfl, hv4, hv, hb⟩
              have HV := Lib.hid hv
              have HB3 : Hid (Below (X + 1) W w3) := HB.out.trans (hb.mono (Nat.le_trans HWL.out HB.out.size))
              have HO3 := Lib.hid (own_below HO.out hb)
              have HRD3 := Lib.hid (HRD.out.below hb)
              have HAP3 : Hid (∀ a, A3 = some a → (Value.slice A4 p c4).ownBlock ≠ some a.block ∧ a.block < w3.heap.size) := fun a ha => ⟨(HAP.out a ha).1, Nat.lt_of_lt_of_le (HAP.out a ha).2 hb.size⟩
              clear hv hb n0 n1 n2 n3 n4 n5 HO HB HRD HAP
              by_cases hv0 : v = 0
              · subst hv0
                have HQ3 : Hid (p = 0 ↔ m = 0 ∧ ∀ j < k + 1, ErrOk n K j) := HQ2.out.trans ⟨fun h => ⟨h.1, fun j hj => by
                  rcases Nat.lt_or_ge j k with h1 | h1
                  · exact h.2 j h1
                  · obtain rfl : j = k := by omega
                    exact HV.out.1 rfl⟩, fun h => ⟨h.1, fun j hj => h.2 j (by omega)⟩⟩
                go_wp2_with fail
                go_roundw
                case rel => exact ⟨k + 1, p, ys, by omega, by omega, by omega, by go_num, HO3.out, HI.out, HB3.out, HRD3.out, HAP3.out, HQ3.out⟩
                case measure => simp [intOf]; omega
              · have v1 : ((v : Int) != 0) = true := by simp; omega
                have v2 : ((v : Int) == 0) = false := by simp; omega
                have HQ3 : Hid (p + 1 = 0 ↔ m = 0 ∧ ∀ j < k + 1, ErrOk n K j) := ⟨fun h => by omega, fun h => absurd (HV.out.2 (h.2 k (by omega))) hv0⟩
                clear hv0
                go_wp2_with (refine wpList_app (by rfl) (.tmp 45) (.tmp 50) 80 80 (by rfl) (X + 1) 138 i0 _ 3 24 Tryz.underlying80 hi0 hz0 hz1 hz2 (by rfl) _ p ys (by rfl) (HO3.out.alloc (.cells #[iV K, iV k, iV v] 138)) _ (by rfl) 1 [iV K, iV k, iV v] (src_k 3 Tryz.underlying80 (Rd.new _ [iV K, iV k, iV v] _) rfl (by simp [Value.oneCell'])) (by unfold maxLen; omega) (by omega) (by have := HWL.out; have := HB3.out.size; simp; omega) ?_; intro A5 c5 w4 ho hgr hbl; have HO4 := Lib.hid ho; have HB4 := Lib.hid (app_below (HB3.out.alloc (Nat.le_trans HWL.out HB3.out.size) _) HWL.out (HO3.out.alloc _) (Nat.le_refl _) hgr); have HRD4 : Hid (Rd w4 A3 ((nmsOf n K).map sV)) := (HRD3.out.below (ba _ (.cells #[iV K, iV k, iV v] 138))).same hgr.size (fun a ha hlt => hgr.block _ hlt (fun e => (HAP3.out a ha).1 e.symm)); have HAP4 : Hid (∀ a, A3 = some a → (Value.slice A5 (p + 1) c5).ownBlock ≠ some a.block ∧ a.block < w4.heap.size) := (fun a ha => ⟨own_ne hbl (HAP3.out a ha).1 (by have := (HAP3.out a ha).2; simp; omega), Nat.lt_of_lt_of_le (HAP3.out a ha).2 (Nat.le_trans (by simp) hgr.size)⟩); clear ho hgr hbl)
                go_roundw
                case rel => exact ⟨k + 1, p + 1, ys ++ [iV K, iV k, iV v], by omega, by omega, by omega, by go_num, HO4.out, one3 HI.out, HB4.out, HRD4.out, HAP4.out, HQ3.out⟩
                case measure => simp [intOf]; omega
            · have m2 : ¬ (k : Int) < (limB K : Int) := by omega
              have m3 : ((nmsOf n K).length : Int) > (limB K : Int) := by omega
              have m4 : (limB K : Int) < ((nmsOf n K).length : Int) := by omega
              have HQ3 : Hid (p + 1 = 0 ↔ n.names.length = n.cals.length ∧ ∀ k, 1 ≤ k → k < K + 1 → KindOk n k) := ⟨fun h => by omega, fun h => by have := (h.2 K HK1.out (by omega)).1; omega⟩
              go_wp2_with fail
              refine (limit_any K HK1.out HK5.out _).mono ?_
              rintro e w3 ⟨rfl, rfl⟩
              go_wp2_with fail
              refine (limit_any K HK1.out HK5.out _).mono ?_
              rintro e w3 ⟨rfl, rfl⟩
              go_wp2_with fail
              refine (limit_any K HK1.out HK5.out _).mono ?_
              rintro e w3 ⟨rfl, rfl⟩
              go_wp2_with (refine wpList_app (by rfl) (.tmp 57) (.tmp 62) 80 80 (by rfl) (X + 1) 138 i0 _ 3 24 Tryz.underlying80 hi0 hz0 hz1 hz2 (by rfl) _ p ys (by rfl) (HO.out.alloc (.cells #[iV K, iV (limB K), iV 2] 138)) _ (by rfl) 1 [iV K, iV (limB K), iV 2] (src_k 3 Tryz.underlying80 (Rd.new _ [iV K, iV (limB K), iV 2] _) rfl (by simp [Value.oneCell'])) (by unfold maxLen; omega) (by omega) (by have := HWL.out; have := HB.out.size; simp; omega) ?_; intro A5 c5 w4 ho hgr hbl; have HO4 := Lib.hid ho; have HB4 := Lib.hid (app_below (HB.out.alloc (Nat.le_trans HWL.out HB.out.size) _) HWL.out (HO.out.alloc _) (Nat.le_refl _) hgr); clear ho hgr hbl)
              go_roundw
              case rel => exact ⟨K + 1, p + 1, ys ++ [iV K, iV (limB K), iV 2], by omega, by omega, by omega, by go_num, HO4.out, one3 HI.out, HB4.out, HQ3.out⟩
              case measure => simp [intOf]; omega
          · have m1 : ¬ (k : Int) < ((nmsOf n K).length : Int) := by omega
            have m4 : ¬ (limB K : Int) < ((nmsOf n K).length : Int) := by omega
            have HQ3 : Hid (p = 0 ↔ n.names.length = n.cals.length ∧ ∀ k, 1 ≤ k → k < K + 1 → KindOk n k) := HQ2.out.trans ⟨fun h => by
              have h2 := HQ.out.1 h.1
              refine ⟨h2.1, fun j h3 h4 => ?_⟩
              rcases Nat.lt_or_ge j K with h5 | h5
              · exact h2.2 j h3 h5
              · obtain rfl : j = K := by omega
                exact ⟨by omega, fun i hi => h.2 i (by omega)⟩, fun h => ⟨HQ.out.2 ⟨h.1, fun j h3 h4 => h.2 j h3 (by omega)⟩, fun j hj => (h.2 K HK1.out (by omega)).2 j (by omega)⟩⟩
            go_wp2_with fail
            refine (limit_any K HK1.out HK5.out _).mono ?_
            rintro e w3 ⟨rfl, rfl⟩
            go_wp2_with fail
            go_roundw
            case rel => exact ⟨K + 1, p, ys, by omega, by omega, by omega, by go_num, HO.out, HI.out, HB.out, HQ3.out⟩
            case measure => simp [intOf]; omega
      · have k1 : ¬ (K : Int) ≤ 5 := by omega
        obtain rfl : K = 6 := by omega
        go_wp2_with fail
        go_ret
        exact ⟨A2, m, c2, xs, rfl, own_base HO.out (by have := HX.out; omega), HI.out, HQ.out.trans ⟨fun h => kinds_cons.1 ⟨h.1, fun k a b => h.2 k a (by omega)⟩, fun h => ⟨h.same, fun k a b => (kinds_cons.2 h).2 k a (by omega)⟩⟩, by omega, (HNB.out _ HB.out).1⟩
set_option maxHeartbeats 2000000 in
set_option maxRecDepth 100000 in
theorem consist_any (n : Net) (w : World) (hn : NetIn w n) (hf : FewN n) :
    Calls Tryz.prog 173 #[netV n] w fun e w' => (∃ b, e = .returned (.bool b) ∧ (b = true ↔ Cons n)) ∧ Below w.heap.size w w' := by
  have hb0 := ba w (netO n)
  have hx0 := heap_alloc_new w (netO n)
  have HNP : Hid (NetP (w.alloc (netO n)) w.heap.size n) := ⟨fun i v hv => (cell_of_row _ _ _ _ _ _ hx0).trans hv, hn.below hb0⟩
  have HB0 := Lib.hid hb0
  have HF := Lib.hid hf
  have n0 : (w.alloc (netO n)).cell? ⟨w.heap.size, 0, none⟩ = some (.slice n.calA n.cals.length n.calC) := HNP.out.box 0 _ rfl
  have n1 : (w.alloc (netO n)).cell? ⟨w.heap.size, 1, none⟩ = some (.slice n.namA n.names.length n.namC) := HNP.out.box 1 _ rfl
  have n2 : (w.alloc (netO n)).cell? ⟨w.heap.size, 2, none⟩ = some (.slice n.opA n.ops.length n.opC) := HNP.out.box 2 _ rfl
  have n3 : (w.alloc (netO n)).cell? ⟨w.heap.size, 3, none⟩ = some (.slice n.offA n.offs.length n.offC) := HNP.out.box 3 _ rfl
  have n4 : (w.alloc (netO n)).cell? ⟨w.heap.size, 4, none⟩ = some (.slice n.linA n.lins.length n.linC) := HNP.out.box 4 _ rfl
  have n5 : (w.alloc (netO n)).cell? ⟨w.heap.size, 5, none⟩ = some (.slice n.clsA n.clss.length n.clsC) := HNP.out.box 5 _ rfl
  clear hn hf hb0 hx0
  go_enter Tryz.func173, Tryz.ntmps173
  go_upto_region 1 with fail
  change Code.wp _ _ _ _ (w.alloc (netO n))
  generalize (w.alloc (netO n)) = W at *
  go_wp2_with fail
  refine (faults_any n _ HNP.out.net HF.out).mono ?_
  rintro e w1 ⟨A, m, c, xs, rfl, -, -, hm, hmb, hb⟩
  have HM := Lib.hid hm
  have HB := Lib.hid hb
  clear hm hb n0 n1 n2 n3 n4 n5
  by_cases h0 : m = 0
  · subst h0
    have HC : Hid (Cons n) := HM.out.1 rfl
    go_wp2_with fail
    go_ret
    exact ⟨⟨true, rfl, ⟨fun _ => HC.out, fun _ => rfl⟩⟩, bt HB0.out HB.out⟩
  · have e1 : ((m : Int) == 0) = false := by simp; omega
    have HC : Hid (¬ Cons n) := fun h => h0 (HM.out.2 h)
    clear h0
    go_wp2_with fail
    go_ret
    exact ⟨⟨false, rfl, ⟨(fun h => by cases h), fun h => absurd h HC.out⟩⟩, bt HB0.out HB.out⟩
end Go.Proofs.YtjpabeoflhkfkaaGreatDoor
namespace Go.Proofs.YtjpabeoflhkfkaaGreatDoor
open Go.RowKit

theorem within_any (i m : Int) (w : World) : Calls Tryz.prog 103 #[iV i, iV m] w fun e w' => e = .returned (.bool (decide (0 ≤ i) && decide (i < m))) ∧ w = w' := by
  by_cases h : 0 ≤ i
  · have HR : Hid ((decide (0 ≤ i) && decide (i < m)) = decide (i < m)) := by show _ = _; simp [h]
    go_enter Tryz.func103, Tryz.ntmps103
    go_wp2
    go_ret
    exact ⟨ret_bool HR.out.symm, rfl⟩
  · have HR : Hid ((decide (0 ≤ i) && decide (i < m)) = false) := by show _ = _; simp [h]
    go_enter Tryz.func103, Tryz.ntmps103
    go_wp2
    go_ret
    exact ⟨ret_bool HR.out.symm, rfl⟩
def BoolR (Q : Bool → Prop) (e : Ending) : Prop := ∃ b, e = .returned (.bool b) ∧ Q b
set_option maxHeartbeats 2000000 in
theorem small2_any (c : Cal) (w : World) (hc : CalIn w c) :
    Calls Tryz.prog 135 #[calV c] w fun e w' => BoolR (fun _ => True) e ∧ Below w.heap.size w w' := by
  obtain ⟨-, -, -, -, hl1, hl2⟩ := hc
  have HB := Lib.hid (ba w (.cells (encCal c).toArray 58))
  unfold maxLen at hl1 hl2
  have hbox := cal_box w c 58
  unfold encCal at HB hbox
  obtain ⟨k0, k1, k2⟩ := hbox
  by_cases h : c.week.length ≤ 20
  · have i1 : (c.week.length : Int) ≤ 20 := by omega
    clear h
    go_enter Tryz.func135, Tryz.ntmps135
    go_wp2
    go_ret
    exact ⟨⟨_, rfl, trivial⟩, HB.out⟩
  · have i1 : ¬ (c.week.length : Int) ≤ 20 := by omega
    clear h
    go_enter Tryz.func135, Tryz.ntmps135
    go_wp2
    go_ret
    exact ⟨⟨_, rfl, trivial⟩, HB.out⟩
set_option maxHeartbeats 4000000 in
set_option maxRecDepth 100000 in
theorem lines_any (n : Net) (A : Option Addr) (c : Nat) (nx : List NsC) (w : World) (hn : NetIn w n) (hT : Tab w A nx) (hx : nx.length ≤ maxLen) :
    Calls Tryz.prog 73 #[netV n, .slice A nx.length c] w fun e w' => e = .returned (.bool (formB n nx)) ∧ Below w.heap.size w w' := by
  have hf1 := hn.lens.2.2.2.1
  have hf2 := hn.lens.2.2.2.2.1
  have hb0 := ba w (netO n)
  have hx0 := heap_alloc_new w (netO n)
  have hN : NetP (w.alloc (netO n)) w.heap.size n := ⟨fun i v hv => (cell_of_row _ _ _ _ _ _ hx0).trans hv, hn.below hb0⟩
  have n3 : (w.alloc (netO n)).cell? ⟨w.heap.size, 3, none⟩ = some (.slice n.offA n.offs.length n.offC) := hN.box 3 _ rfl
  have n4 : (w.alloc (netO n)).cell? ⟨w.heap.size, 4, none⟩ = some (.slice n.linA n.lins.length n.linC) := hN.box 4 _ rfl
  have HN := Lib.hid hN; clear hN
  have HT := Lib.hid (hT.below hb0); clear hT
  have HB0 := Lib.hid hb0
  clear hn hb0 hx0
  unfold maxLen at hx hf1 hf2
  by_cases hlen : nx.length = n.offs.length
  · have i1 : ((nx.length : Int) != (n.offs.length : Int)) = false := by simp; omega
    have i1' : ((nx.length : Int) == (n.offs.length : Int)) = true := by simp; omega
    have HLEN := Lib.hid hlen
    go_enter Tryz.func73, Tryz.ntmps73
    go_upto_region 1 with fail
    change Code.wp _ _ _ _ (w.alloc (netO n))
    generalize (w.alloc (netO n)) = W at *
    go_wp2
    clear hlen
    go_loopw [5] (fun i wr => ∃ k q : Nat, k ≤ nx.length ∧ i = iV k ∧ wr = W.drewN q ∧ Hid (∀ o r, o < k → nx[o]? = some r → r.ns.length = n.offs.length ∧ ∀ l ∈ r.ns, EntryOk n o l)) (fun i _ => nx.length + 1 - (intOf i).toNat)
    case atStart => exact ⟨0, 0, by omega, rfl, rfl, fun o r h => by omega⟩
    case round =>
      obtain ⟨k, q, hk, rfl, rfl, HS⟩ := hrel
      have j0 : (0 : Int) ≤ (k : Int) := by omega
      by_cases hlt : k < nx.length
      · have j1 : (k : Int) < (nx.length : Int) := by omega
        have hr : nx[k]? = some nx[k] := List.getElem?_eq_getElem _
        generalize nx[k] = r at hr
        obtain ⟨ns, rA, rc⟩ := r
        have HTr : Hid (Rd W rA (ns.map iV) ∧ (∀ n ∈ ns, I64 n) ∧ ns.length ≤ maxLen) := HT.out.row _ (List.mem_of_getElem? hr)
        obtain ⟨nb, no, hnA, -, hnc⟩ := HT.out.rd.get (i := k) (by rw [List.length_map]; exact hlt)
        have x1 : W.cell? ⟨nb, no + k, none⟩ = some (.slice rA ns.length rc) := hnc k _ (by rw [List.getElem?_map, hr]; rfl)
        have HNA := Lib.hid hnA
        have HRr := Lib.hid hr; clear hr hnc
        subst hnA
        have hrm := HTr.out.2.2
        unfold maxLen at hrm
        by_cases hrl : ns.length = n.offs.length
        · have i2 : ((ns.length : Int) != (nx.length : Int)) = false := by have := HLEN.out; simp; omega
          have i2' : ((ns.length : Int) == (nx.length : Int)) = true := by have := HLEN.out; simp; omega
          have HRL := Lib.hid hrl; clear hrl
          go_wp2
          go_loopw [6] (fun i wr => ∃ m p : Nat, m ≤ ns.length ∧ i = iV m ∧ wr = W.drewN p ∧ Hid (∀ j l, j < m → ns[j]? = some l → EntryOk n k l)) (fun i _ => ns.length + 1 - (intOf i).toNat)
          case atStart => exact ⟨0, _, by omega, rfl, rfl, fun o r h => by omega⟩
          case round =>
            obtain ⟨m, p, hm, rfl, rfl, HQ⟩ := hrel
            have m0 : (0 : Int) ≤ (m : Int) := by omega
            by_cases hmt : m < ns.length
            · have m1 : (m : Int) < (ns.length : Int) := by omega
              have m1b : (m : Int) < (nx.length : Int) := by have := HLEN.out; have := HRL.out; omega
              have hl : ns[m]? = some ns[m] := List.getElem?_eq_getElem _
              obtain ⟨rb, ro, hrA, -, hrc⟩ := HTr.out.1.get (i := m) (by rw [List.length_map]; exact hmt)
              have x2 : W.cell? ⟨rb, ro + m, none⟩ = some (iV ns[m]) := hrc m _ (by simp [hmt])
              generalize ns[m] = l at hl x2
              have HL := Lib.hid hl; clear hl hrc
              have HRA := Lib.hid hrA
              subst hrA
              have HNO : Hid (¬ EntryOk n k l → formB n nx = false) := fun hno => formB_false (fun h => hno ((((formed_iff n nx).1 h).2 k _ HRr.out).2 l (List.mem_of_getElem? HL.out)))
              have HYES : Hid (EntryOk n k l → ∀ j l, j < m + 1 → ns[j]? = some l → EntryOk n k l) := fun hy j l' hj hl' => by
                rcases Nat.lt_or_ge j m with h | h
                · exact HQ.out j l' h hl'
                · obtain rfl : j = m := by omega
                  rw [HL.out] at hl'
                  cases hl'
                  exact hy
              by_cases hm1 : l = -1
              · subst hm1
                go_wp2
                go_roundw
                case rel => exact ⟨m + 1, _, by omega, by go_num, rfl, HYES.out (.inl rfl)⟩
                case measure => simp [intOf]; omega
              · have hm2 : (l != -1) = true := by simpa using hm1
                have hm3 : (l == -1) = false := by simpa using hm1
                have HM1 := Lib.hid hm1; clear hm1
                by_cases hin : 0 ≤ l ∧ l < (n.lins.length : Int)
                · obtain ⟨hp, hq⟩ := hin
                  obtain ⟨li, rfl⟩ := Int.eq_ofNat_of_zero_le hp
                  have hq' : li < n.lins.length := by omega
                  obtain ⟨-, lb, lo, hlA, -, -, hlc⟩ := elem_at encLin_len HN.out.net.lins (linAt_get hq') (by omega)
                  have y1 : W.cell? ⟨lb, lo + li * 6 + 1, none⟩ = some (iV (linAt n li).frm) := hlc 1 _ rfl
                  clear hlc hq'
                  rw [hlA] at n4
                  have HB : Hid ((decide (0 ≤ (li : Int)) && decide ((li : Int) < (n.lins.length : Int))) = true) := by show _ = _; simp [hq]
                  by_cases hfr : (linAt n li).frm = (k : Int)
                  · have f1 : ((linAt n li).frm != (k : Int)) = false := by simpa using hfr
                    have f2 : ((linAt n li).frm == (k : Int)) = true := by simpa using hfr
                    have HF := Lib.hid hfr; clear hfr
                    go_wp2_with fail
                    refine (within_any _ _ _).mono ?_
                    rintro e w2 ⟨rfl, rfl⟩
                    rw [HB.out]
                    go_wp2
                    go_roundw
                    case rel => exact ⟨m + 1, _, by omega, by go_num, rfl, HYES.out (.inr ⟨by omega, by omega, HF.out⟩)⟩
                    case measure => simp [intOf]; omega
                  · have f1 : ((linAt n li).frm != (k : Int)) = true := by simpa using hfr
                    have f2 : ((linAt n li).frm == (k : Int)) = false := by simpa using hfr
                    have HR : Hid (formB n nx = false) := HNO.out (fun h => by
                      rcases h with h | ⟨-, -, h⟩
                      · exact HM1.out h
                      · exact hfr h)
                    clear hfr
                    go_wp2_with fail
                    refine (within_any _ _ _).mono ?_
                    rintro e w2 ⟨rfl, rfl⟩
                    rw [HB.out]
                    go_wp2
                    go_ret
                    exact ⟨ret_bool HR.out.symm, below_drewN HB0.out _⟩
                · have HB : Hid ((decide (0 ≤ l) && decide (l < (n.lins.length : Int))) = false) := by
                    show _ = _
                    rw [Bool.eq_false_iff]
                    intro h
                    simp at h
                    exact hin ⟨h.1, h.2⟩
                  have HR : Hid (formB n nx = false) := HNO.out (fun h => by
                    rcases h with h | ⟨h1, h2, -⟩
                    · exact HM1.out h
                    · exact hin ⟨h1, h2⟩)
                  clear hin
                  go_wp2_with fail
                  refine (within_any _ _ _).mono ?_
                  rintro e w2 ⟨rfl, rfl⟩
                  rw [HB.out]
                  go_wp2
                  go_ret
                  exact ⟨ret_bool HR.out.symm, below_drewN HB0.out _⟩
            · have m1 : ¬ (m : Int) < (nx.length : Int) := by have := HLEN.out; have := HRL.out; omega
              have HK1 : Hid (∀ o r, o < k + 1 → nx[o]? = some r → r.ns.length = n.offs.length ∧ ∀ l ∈ r.ns, EntryOk n o l) := fun o r' ho hr' => by
                rcases Nat.lt_or_ge o k with h | h
                · exact HS.out o r' h hr'
                · obtain rfl : o = k := by omega
                  rw [HRr.out] at hr'
                  cases hr'
                  refine ⟨HRL.out, fun l hl => ?_⟩
                  obtain ⟨j, hj, hjl⟩ := List.mem_iff_getElem.1 hl
                  have hj2 : j < ns.length := hj
                  exact HQ.out j l (by omega) (by rw [List.getElem?_eq_getElem hj, hjl])
              go_wp2
              go_roundw
              case rel => exact ⟨k + 1, _, by omega, by go_num, rfl, HK1.out⟩
              case measure => simp [intOf]; omega
        · have i2 : ((ns.length : Int) != (nx.length : Int)) = true := by have := HLEN.out; simp; omega
          have i2' : ((ns.length : Int) == (nx.length : Int)) = false := by have := HLEN.out; simp; omega
          have HR : Hid (formB n nx = false) := formB_false (fun h => hrl (((formed_iff n nx).1 h).2 k _ HRr.out).1)
          clear hrl
          go_wp2
          go_ret
          exact ⟨ret_bool HR.out.symm, below_drewN HB0.out _⟩
      · have j1 : ¬ (k : Int) < (nx.length : Int) := by omega
        have HR : Hid (formB n nx = true) := formB_true.2 ((formed_iff n nx).2 ⟨HLEN.out, fun o r hr => HS.out o r (by have := (List.getElem?_eq_some_iff.1 hr).1; omega) hr⟩)
        go_wp2
        go_ret
        exact ⟨ret_bool HR.out.symm, below_drewN HB0.out _⟩
  · have i1 : ((nx.length : Int) != (n.offs.length : Int)) = true := by simp; omega
    have i1' : ((nx.length : Int) == (n.offs.length : Int)) = false := by simp; omega
    have HR : Hid (formB n nx = false) := formB_false (fun h => hlen h.1)
    clear hlen
    go_enter Tryz.func73, Tryz.ntmps73
    go_wp2
    go_ret
    exact ⟨ret_bool HR.out.symm, HB0.out⟩
set_option maxHeartbeats 8000000 in
set_option maxRecDepth 100000 in
theorem few_any (n : Net) (w : World) (hn : NetIn w n) :
    Calls Tryz.prog 101 #[netV n] w fun e w' => BoolR (fun b => b = true → FewN n) e ∧ Below w.heap.size w w' := by
  have hb0 := ba w (netO n)
  have hx0 := heap_alloc_new w (netO n)
  have hl := hn.lens
  unfold maxLen at hl
  have HNP : Hid (NetP (w.alloc (netO n)) w.heap.size n) := ⟨fun i v hv => (cell_of_row _ _ _ _ _ _ hx0).trans hv, hn.below hb0⟩
  have HNW := Lib.hid hn
  have HB0 := Lib.hid hb0
  have HWL : Hid (w.heap.size + 1 ≤ (w.alloc (netO n)).heap.size) := block_lt hx0
  clear hn hb0 hx0
  go_enter Tryz.func101, Tryz.ntmps101
  go_upto_region 1 with fail
  change Code.wp _ _ _ _ (w.alloc (netO n))
  generalize (w.alloc (netO n)) = W at *
  generalize hX : w.heap.size = X at *
  have HX := Lib.hid hX; clear hX
  have HNB : Hid (∀ wr, Below (X + 1) W wr → Below w.heap.size w wr ∧ NetP wr X n) := fun wr hb => box_keep HNW.out HX.out HB0.out HNP.out.box hb
  have HNO : Hid (∀ wr, Below (X + 1) W wr → BoolR (fun b => b = true → FewN n) (.returned (.bool false)) ∧ Below w.heap.size w wr) := fun wr hb => ⟨⟨false, rfl, fun h => by cases h⟩, (HNB.out wr hb).1⟩
  have n0 : W.cell? ⟨X, 0, none⟩ = some (.slice n.calA n.cals.length n.calC) := HNP.out.box 0 _ rfl
  have n1 : W.cell? ⟨X, 1, none⟩ = some (.slice n.namA n.names.length n.namC) := HNP.out.box 1 _ rfl
  have n2 : W.cell? ⟨X, 2, none⟩ = some (.slice n.opA n.ops.length n.opC) := HNP.out.box 2 _ rfl
  have n3 : W.cell? ⟨X, 3, none⟩ = some (.slice n.offA n.offs.length n.offC) := HNP.out.box 3 _ rfl
  have n4 : W.cell? ⟨X, 4, none⟩ = some (.slice n.linA n.lins.length n.linC) := HNP.out.box 4 _ rfl
  have n5 : W.cell? ⟨X, 5, none⟩ = some (.slice n.clsA n.clss.length n.clsC) := HNP.out.box 5 _ rfl
  by_cases c_cals : n.cals.length ≤ 10
  case neg =>
    have i_cals : (10 : Int) < (n.cals.length : Int) := by omega
    go_wp2_with fail
    go_ret
    exact HNO.out _ (Below.refl _ _)
  have i_cals : ¬ (10 : Int) < (n.cals.length : Int) := by omega
  by_cases c_names : n.names.length ≤ 10
  case neg =>
    have i_names : (10 : Int) < (n.names.length : Int) := by omega
    go_wp2_with fail
    go_ret
    exact HNO.out _ (Below.refl _ _)
  have i_names : ¬ (10 : Int) < (n.names.length : Int) := by omega
  by_cases c_ops : n.ops.length ≤ 10
  case neg =>
    have i_ops : (10 : Int) < (n.ops.length : Int) := by omega
    go_wp2_with fail
    go_ret
    exact HNO.out _ (Below.refl _ _)
  have i_ops : ¬ (10 : Int) < (n.ops.length : Int) := by omega
  by_cases c_offs : n.offs.length ≤ 16
  case neg =>
    have i_offs : (16 : Int) < (n.offs.length : Int) := by omega
    go_wp2_with fail
    go_ret
    exact HNO.out _ (Below.refl _ _)
  have i_offs : ¬ (16 : Int) < (n.offs.length : Int) := by omega
  by_cases c_lins : n.lins.length ≤ 50
  case neg =>
    have i_lins : (50 : Int) < (n.lins.length : Int) := by omega
    go_wp2_with fail
    go_ret
    exact HNO.out _ (Below.refl _ _)
  have i_lins : ¬ (50 : Int) < (n.lins.length : Int) := by omega
  by_cases c_clss : n.clss.length ≤ 8
  case neg =>
    have i_clss : (8 : Int) < (n.clss.length : Int) := by omega
    go_wp2_with fail
    go_ret
    exact HNO.out _ (Below.refl _ _)
  have i_clss : ¬ (8 : Int) < (n.clss.length : Int) := by omega
  have HF : Hid (FewN n) := ⟨c_cals, c_names, c_ops, c_offs, c_lins, c_clss⟩
  go_wp2_with fail
  clear n0 n1 n2 n3 n4 n5 i_names i_ops i_cals i_offs i_lins i_clss c_names c_ops c_lins c_clss hl
  go_loopw [3] (fun i wr => ∃ k : Nat, k ≤ n.cals.length ∧ i = iV k ∧ Hid (Below (X + 1) W wr)) (fun i _ => 60 - (intOf i).toNat)
  case atStart => exact ⟨0, by omega, rfl, Below.refl _ _⟩
  case round =>
  obtain ⟨k, hk, rfl, HB⟩ := hrel
  have k0 : (0 : Int) ≤ (k : Int) := by omega
  have hnp := (HNB.out _ HB.out).2
  have n0 : wr.cell? ⟨X, 0, none⟩ = some (.slice n.calA n.cals.length n.calC) := hnp.box 0 _ rfl
  by_cases hlt : k < n.cals.length
  case pos =>
    have k1 : (k : Int) < (n.cals.length : Int) := by omega
    have hx : n.cals[k]? = some n.cals[k] := List.getElem?_eq_getElem _
    generalize n.cals[k] = x at hx
    obtain ⟨-, b, off, hA, -, hc0, hc⟩ := elem_at encCal_len hnp.net.cals hx (by omega)
    have x0 := hc0 _ rfl
    have x1 := hc 1 _ rfl
    have x2 := hc 2 _ rfl
    have HXC := Lib.hid (hnp.net.cal x (List.mem_of_getElem? hx))
    rw [hA] at n0
    clear hA hc0 hc hx hnp
    go_wp2_with fail
    refine (small2_any x _ HXC.out).mono ?_
    rintro e w2 ⟨⟨bb, rfl, -⟩, hb⟩
    have HB2 : Hid (Below (X + 1) W w2) := HB.out.trans (hb.mono (Nat.le_trans HWL.out HB.out.size))
    clear hb n0 x0 x1 x2
    cases bb
    · go_wp2_with fail
      go_ret
      exact HNO.out _ HB2.out
    · go_wp2_with fail
      go_roundw
      case rel => exact ⟨k + 1, by omega, by go_num, HB2.out⟩
      case measure => simp [intOf]; omega
  have k1 : ¬ (k : Int) < (n.cals.length : Int) := by omega
  clear hnp
  go_wp2_with fail
  clear n0
  go_loopw [4] (fun i wr' => ∃ k : Nat, k ≤ n.offs.length ∧ i = iV k ∧ wr' = wr) (fun i _ => 60 - (intOf i).toNat)
  case atStart => exact ⟨0, by omega, rfl, rfl⟩
  case round =>
  obtain ⟨q, hq, rfl, rfl⟩ := hrel
  have q0 : (0 : Int) ≤ (q : Int) := by omega
  have hnp := (HNB.out _ HB.out).2
  have n3 : wr.cell? ⟨X, 3, none⟩ = some (.slice n.offA n.offs.length n.offC) := hnp.box 3 _ rfl
  by_cases hqt : q < n.offs.length
  case pos =>
    have q1 : (q : Int) < (n.offs.length : Int) := by omega
    have hx : n.offs[q]? = some n.offs[q] := List.getElem?_eq_getElem _
    generalize n.offs[q] = x at hx
    obtain ⟨-, b, off, hA, -, -, hc⟩ := elem_at encOff_len hnp.net.offs hx (by omega)
    have x6 := hc 6 _ rfl
    rw [hA] at n3
    clear hA hc hx hnp
    by_cases hcc : x.codes.length ≤ 30
    · have g1 : ¬ (30 : Int) < (x.codes.length : Int) := by omega
      clear hcc
      go_wp2_with fail
      go_roundw
      case rel => exact ⟨q + 1, by omega, by go_num, by first | trivial | rfl⟩
      case measure => simp [intOf]; omega
    · have g1 : (30 : Int) < (x.codes.length : Int) := by omega
      clear hcc
      go_wp2_with fail
      go_ret
      exact HNO.out _ HB.out
  have q1 : ¬ (q : Int) < (n.offs.length : Int) := by omega
  clear hnp
  go_wp2_with fail
  clear n3
  go_loopw [5] (fun kd wr => ∃ K : Nat, 1 ≤ K ∧ K ≤ 6 ∧ kd = iV K ∧ Hid (Below (X + 1) W wr)) (fun kd _ => 7 - (intOf kd).toNat)
  case atStart => exact ⟨1, by omega, by omega, rfl, HB.out⟩
  case round =>
  clear HB k0 k1 hlt hk q0 q1 hqt hq
  obtain ⟨K, hK1, hK2, rfl, HB⟩ := hrel
  by_cases hK : K ≤ 5
  case neg =>
    have k1 : ¬ (K : Int) ≤ 5 := by omega
    go_wp2_with fail
    go_ret
    exact ⟨⟨true, rfl, fun _ => HF.out⟩, (HNB.out _ HB.out).1⟩
  have k1 : (K : Int) ≤ 5 := by omega
  have n0 : wr.cell? ⟨X, 0, none⟩ = some (.slice n.calA n.cals.length n.calC) := (HNB.out _ HB.out).2.box 0 _ rfl
  have n1 : wr.cell? ⟨X, 1, none⟩ = some (.slice n.namA n.names.length n.namC) := (HNB.out _ HB.out).2.box 1 _ rfl
  have n2 : wr.cell? ⟨X, 2, none⟩ = some (.slice n.opA n.ops.length n.opC) := (HNB.out _ HB.out).2.box 2 _ rfl
  have n3 : wr.cell? ⟨X, 3, none⟩ = some (.slice n.offA n.offs.length n.offC) := (HNB.out _ HB.out).2.box 3 _ rfl
  have n4 : wr.cell? ⟨X, 4, none⟩ = some (.slice n.linA n.lins.length n.linC) := (HNB.out _ HB.out).2.box 4 _ rfl
  have n5 : wr.cell? ⟨X, 5, none⟩ = some (.slice n.clsA n.clss.length n.clsC) := (HNB.out _ HB.out).2.box 5 _ rfl
  go_wp2_with fail
  refine (names_any K hK1 hK n _ (HNB.out _ HB.out).2.net HF.out).mono ?_
  rintro e w2 ⟨A3, c3, rfl, hr, -, hb⟩
  have HRD := Lib.hid hr
  have HB2 : Hid (Below (X + 1) W w2) := HB.out.trans (hb.mono (Nat.le_trans HWL.out HB.out.size))
  have HSH := Lib.hid (nms_short (HNB.out _ HB2.out).2.net hK1 hK)
  have hlen := nms_few HF.out hK1 hK
  clear hr hb n0 n1 n2 n3 n4 n5
  go_wp2_with fail
  go_loopw [7] (fun i wr' => ∃ k : Nat, k ≤ (nmsOf n K).length ∧ i = iV k ∧ wr' = w2) (fun i _ => 60 - (intOf i).toNat)
  case atStart => exact ⟨0, by omega, rfl, rfl⟩
  case round =>
  obtain ⟨k, hk, rfl, rfl⟩ := hrel
  have m0 : (0 : Int) ≤ (k : Int) := by omega
  by_cases hkl : k < (nmsOf n K).length
  case pos =>
    have m1 : (k : Int) < ((nmsOf n K).length : Int) := by omega
    have hx : (nmsOf n K)[k]? = some (nmsOf n K)[k] := List.getElem?_eq_getElem _
    have hxl := HSH.out _ (List.mem_of_getElem? hx)
    obtain ⟨b, off, hA, -, hc⟩ := HRD.out.get (i := k) (by rw [List.length_map]; exact hkl)
    have x0 := hc k (sV (nmsOf n K)[k]) (by rw [List.getElem?_map, hx]; rfl)
    generalize (nmsOf n K)[k] = s at hx hxl x0
    unfold maxLen at hxl
    have HA := Lib.hid hA
    subst hA
    clear hc hx
    by_cases hcc : s.length ≤ 40
    · have g1 : ¬ (40 : Int) < (s.length : Int) := by omega
      clear hcc
      go_wp2_with fail
      go_roundw
      case rel => exact ⟨k + 1, by omega, by go_num, by first | trivial | rfl⟩
      case measure => simp [intOf]; omega
    · have g1 : (40 : Int) < (s.length : Int) := by omega
      clear hcc
      go_wp2_with fail
      go_ret
      exact HNO.out _ HB2.out
  have m1 : ¬ (k : Int) < ((nmsOf n K).length : Int) := by omega
  go_wp2_with fail
  go_roundw
  case rel => exact ⟨K + 1, by omega, by omega, by go_num, HB2.out⟩
  case measure => simp [intOf]; omega
set_option maxHeartbeats 8000000 in
set_option maxRecDepth 100000 in
theorem small_any (n : Net) (A : Option Addr) (c : Nat) (nx : List NsC) (w : World) (hn : NetIn w n) (hT : Tab w A nx) (hx : nx.length ≤ maxLen) :
    Calls Tryz.prog 71 #[netV n, .slice A nx.length c] w fun e w' => BoolR (fun b => b = true → FewN n ∧ n.offs.length ≤ 6) e ∧ Below w.heap.size w w' := by
  have hb0 := ba w (netO n)
  have hx0 := heap_alloc_new w (netO n)
  have hl := hn.lens.2.2.2.1
  unfold maxLen at hl hx
  have HNP : Hid (NetP (w.alloc (netO n)) w.heap.size n) := ⟨fun i v hv => (cell_of_row _ _ _ _ _ _ hx0).trans hv, hn.below hb0⟩
  have HT := Lib.hid (hT.below hb0)
  have HB0 := Lib.hid hb0
  clear hn hT hb0 hx0
  go_enter Tryz.func71, Tryz.ntmps71
  go_upto_region 1 with fail
  change Code.wp _ _ _ _ (w.alloc (netO n))
  generalize (w.alloc (netO n)) = W at *
  generalize hX : w.heap.size = X at *
  have HX := Lib.hid hX; clear hX
  have HNB : Hid (∀ wr, Below W.heap.size W wr → Below w.heap.size w wr) := fun wr hb => by have h := HB0.out; rw [← HX.out] at h; exact bt h hb
  have HNO : Hid (∀ wr, Below W.heap.size W wr → BoolR (fun b => b = true → FewN n ∧ n.offs.length ≤ 6) (.returned (.bool false)) ∧ Below w.heap.size w wr) := fun wr hb => ⟨⟨false, rfl, fun h => by cases h⟩, (HNB.out wr hb)⟩
  have n0 : W.cell? ⟨X, 0, none⟩ = some (.slice n.calA n.cals.length n.calC) := HNP.out.box 0 _ rfl
  have n1 : W.cell? ⟨X, 1, none⟩ = some (.slice n.namA n.names.length n.namC) := HNP.out.box 1 _ rfl
  have n2 : W.cell? ⟨X, 2, none⟩ = some (.slice n.opA n.ops.length n.opC) := HNP.out.box 2 _ rfl
  have n3 : W.cell? ⟨X, 3, none⟩ = some (.slice n.offA n.offs.length n.offC) := HNP.out.box 3 _ rfl
  have n4 : W.cell? ⟨X, 4, none⟩ = some (.slice n.linA n.lins.length n.linC) := HNP.out.box 4 _ rfl
  have n5 : W.cell? ⟨X, 5, none⟩ = some (.slice n.clsA n.clss.length n.clsC) := HNP.out.box 5 _ rfl
  go_wp2_with fail
  refine (few_any n _ HNP.out.net).mono ?_
  rintro e w2 ⟨⟨bb, rfl, hf⟩, hb⟩
  have HB := Lib.hid hb
  have HF := Lib.hid hf
  have HT2 := Lib.hid (HT.out.below hb)
  have m3 : w2.cell? ⟨X, 3, none⟩ = some (.slice n.offA n.offs.length n.offC) := (HNP.out.below hb).box 3 _ rfl
  clear hb hf n0 n1 n2 n3 n4 n5
  cases bb
  · go_wp2_with fail
    go_ret
    exact HNO.out _ HB.out
  have HF1 : Hid (FewN n) := HF.out rfl
  clear HF
  by_cases h6 : n.offs.length ≤ 6
  case neg =>
    have i6 : (6 : Int) < (n.offs.length : Int) := by omega
    clear h6
    go_wp2_with fail
    go_ret
    exact HNO.out _ HB.out
  have i6 : ¬ (6 : Int) < (n.offs.length : Int) := by omega
  have H6 := Lib.hid h6; clear h6
  by_cases h10 : nx.length ≤ 10
  case neg =>
    have i7 : (10 : Int) < (nx.length : Int) := by omega
    clear h10
    go_wp2_with fail
    go_ret
    exact HNO.out _ HB.out
  have i7 : ¬ (10 : Int) < (nx.length : Int) := by omega
  go_wp2_with fail
  clear m3 i6 i7
  go_loopw [5] (fun i wr => ∃ k : Nat, k ≤ nx.length ∧ i = iV k ∧ wr = w2) (fun i _ => 60 - (intOf i).toNat)
  case atStart => exact ⟨0, by omega, rfl, rfl⟩
  case round =>
  obtain ⟨k, hk, rfl, rfl⟩ := hrel
  have m0 : (0 : Int) ≤ (k : Int) := by omega
  by_cases hlt : k < nx.length
  case pos =>
    have m1 : (k : Int) < (nx.length : Int) := by omega
    have hr : nx[k]? = some nx[k] := List.getElem?_eq_getElem _
    generalize nx[k] = r at hr
    obtain ⟨ns, rA, rc⟩ := r
    have hrl := (HT2.out.row _ (List.mem_of_getElem? hr)).2.2
    obtain ⟨nb, no, hnA, -, hnc⟩ := HT2.out.rd.get (i := k) (by rw [List.length_map]; exact hlt)
    have x1 : wr.cell? ⟨nb, no + k, none⟩ = some (.slice rA ns.length rc) := hnc k _ (by rw [List.getElem?_map, hr]; rfl)
    have HNA := Lib.hid hnA
    clear hr hnc
    subst hnA
    have hrl' : ns.length ≤ maxLen := hrl
    unfold maxLen at hrl'
    clear hrl
    by_cases hcc : ns.length ≤ 10
    · have g1 : ¬ (10 : Int) < (ns.length : Int) := by omega
      clear hcc
      go_wp2_with fail
      go_roundw
      case rel => exact ⟨k + 1, by omega, by go_num, by first | trivial | rfl⟩
      case measure => simp [intOf]; omega
    · have g1 : (10 : Int) < (ns.length : Int) := by omega
      clear hcc
      go_wp2_with fail
      go_ret
      exact HNO.out _ HB.out
  have m1 : ¬ (k : Int) < (nx.length : Int) := by omega
  go_wp2_with fail
  go_ret
  exact ⟨⟨true, rfl, fun _ => ⟨HF1.out, H6.out⟩⟩, HNB.out _ HB.out⟩
end Go.Proofs.YtjpabeoflhkfkaaGreatDoor
