/-
  The walks over the references' tests of a table of promises.
-/
import Derived.Test.YtjpabeoflhkfkaaGreatDoorPr
import Derived.Test.YtjpabeoflhkfkaaGreatDoorPt
import Derived.Test.YtjpabeoflhkfkaaGreatDoorPu
import Derived.Deep.QuietTactic
import Derived.BigQuiet
namespace Go.Proofs.YtjpabeoflhkfkaaGreatDoor
open Go.RowKit

/-- A table of promises that came in, of whatever size. -/
structure DTab0 (w : World) (D : Option Addr) (ds : List DaC) : Prop where
  rd : Rd w D (ds.map slD)
  row : ∀ r ∈ ds, Tab w r.A r.rows ∧ r.rows.length ≤ maxLen
theorem DTab0.below {w w' : World} {D : Option Addr} {ds : List DaC} (h : DTab0 w D ds) (hb : Below w.heap.size w w') : DTab0 w' D ds := ⟨h.rd.below hb, fun r hr => ⟨(h.row r hr).1.below hb, (h.row r hr).2⟩⟩
theorem DTab0.few {w : World} {D : Option Addr} {ds : List DaC} (h : DTab0 w D ds) (hf : ∀ x ∈ ds, x.rows.length ≤ 1000000) : DTab w D ds := ⟨h.rd, fun r hr => ⟨(h.row r hr).1, hf r hr⟩⟩
theorem all_take_step {α : Type} {P : α → Prop} {l : List α} {k : Nat} {x : α} (hx : l[k]? = some x) (h : ∀ y ∈ l.take k, P y) (hp : P x) : ∀ y ∈ l.take (k + 1), P y := fun y hy => by
  rw [take_one hx] at hy
  rcases List.mem_append.1 hy with hy | hy
  · exact h y hy
  · rw [List.mem_singleton.1 hy]; exact hp
theorem boolR_no {P : Prop} (h : ¬ P) : BoolR (fun b => b = true ↔ P) (.returned (.bool false)) := ⟨false, rfl, ⟨(fun e => by cases e), fun k => absurd k h⟩⟩
theorem boolR_yes {P : Prop} (h : P) : BoolR (fun b => b = true ↔ P) (.returned (.bool true)) := ⟨true, rfl, ⟨fun _ => h, fun _ => rfl⟩⟩
set_option maxHeartbeats 8000000 in
set_option maxRecDepth 100000 in
theorem rdays_any (n : Net) (D : Option Addr) (dc : Nat) (ds : List DaC) (w : World) (hn : NetIn w n) (hD : DTab0 w D ds) (hd : ds.length ≤ maxLen) :
    Calls Tryz.prog 24 #[netV n, .slice D ds.length dc] w fun e w' => BoolR (fun b => b = true ↔ DaysOk n ds) e ∧ Below w.heap.size w w' := by
  have hb0 := ba w (netO n)
  have hx0 := heap_alloc_new w (netO n)
  have HNP : Hid (NetP (w.alloc (netO n)) w.heap.size n) := ⟨fun i v hv => (cell_of_row _ _ _ _ _ _ hx0).trans hv, hn.below hb0⟩
  have HD := Lib.hid (hD.below hb0)
  have HB0 := Lib.hid hb0
  have hlc := hn.lens.2.2.2.2.2
  have hlo := hn.lens.2.2.2.1
  unfold maxLen at hd hlc hlo
  clear hn hD hb0 hx0
  go_enter Tryz.func24, Tryz.ntmps24
  go_upto_region 1 with fail
  change Code.wp _ _ _ _ (w.alloc (netO n))
  generalize (w.alloc (netO n)) = W at *
  have n3 : W.cell? ⟨w.heap.size, 3, none⟩ = some (.slice n.offA n.offs.length n.offC) := HNP.out.box 3 _ rfl
  have n5 : W.cell? ⟨w.heap.size, 5, none⟩ = some (.slice n.clsA n.clss.length n.clsC) := HNP.out.box 5 _ rfl
  by_cases h1 : ds.length = n.clss.length
  case neg =>
    have e1 : ((ds.length : Int) != (n.clss.length : Int)) = true := by simp; omega
    have HN : Hid (¬ DaysOk n ds) := fun h => h1 h.1
    clear h1
    go_wp2
    go_ret
    exact ⟨boolR_no HN.out, HB0.out⟩
  have H1 := Lib.hid h1
  have e1 : ((ds.length : Int) != (n.clss.length : Int)) = false := by rw [h1]; simp
  clear h1
  go_wp2
  go_loopw [5, 6] (fun i _ wr => ∃ k q : Nat, k ≤ ds.length ∧ i = iV k ∧ wr = W.drewN q ∧ ∀ x ∈ ds.take k, Sq n.offs.length x.rows) (fun i _ _ => ds.length + 1 - (intOf i).toNat)
  case atStart => exact ⟨0, 0, by omega, rfl, rfl, fun x hx => by simp at hx⟩
  case round =>
  obtain ⟨k, q, hk, rfl, rfl, hok⟩ := hrel
  have HOK := Lib.hid hok; clear hok
  have k0 : (0 : Int) ≤ (k : Int) := by omega
  by_cases hlt : k < ds.length
  case neg =>
    have k1 : ¬ (k : Int) < (ds.length : Int) := by omega
    have HY : Hid (DaysOk n ds) := ⟨H1.out, fun x hx => HOK.out x (by rw [List.take_of_length_le (by omega)]; exact hx)⟩
    go_wp2
    go_ret
    exact ⟨boolR_yes HY.out, below_drewN HB0.out _⟩
  have HLT := Lib.hid hlt
  have k1 : (k : Int) < (ds.length : Int) := by omega
  obtain ⟨x, hx⟩ : ∃ x, ds[k]? = some x := ⟨_, List.getElem?_eq_getElem hlt⟩
  obtain ⟨S, so, hA, -, hcell⟩ := HD.out.rd.get (i := k) (by simpa using hlt)
  have c1 : W.cell? ⟨S, so + k, none⟩ = some (.slice x.A x.rows.length x.c) := hcell k (slD x) (by rw [List.getElem?_map, hx]; rfl)
  have HTX := Lib.hid (HD.out.row x (List.mem_of_getElem? hx)).1
  have hxl := (HD.out.row x (List.mem_of_getElem? hx)).2
  have HXE := Lib.hid hx
  have HXM := Lib.hid (List.mem_of_getElem? hx)
  have HAE := Lib.hid hA
  unfold maxLen at hxl
  clear hcell hx
  rw [hA]
  clear hA
  by_cases h2 : x.rows.length = n.offs.length
  case neg =>
    have e2 : ((x.rows.length : Int) != (n.offs.length : Int)) = true := by simp; omega
    have HN : Hid (¬ DaysOk n ds) := fun h => h2 (h.2 x HXM.out).1
    clear h2
    go_wp2
    go_quiet (fail)
    go_wp2
    go_ret
    exact ⟨boolR_no HN.out, below_drewN (below_drewN HB0.out _) _⟩
  have H2 := Lib.hid h2
  have e2 : ((x.rows.length : Int) != (n.offs.length : Int)) = false := by rw [h2]; simp
  clear h2
  go_wp2
  go_quiet (fail)
  go_wp2
  go_loopw [6] (fun i wr => ∃ j p : Nat, j ≤ x.rows.length ∧ i = iV j ∧ wr = W.drewN p ∧ ∀ r ∈ x.rows.take j, r.ns.length = n.offs.length) (fun i _ => x.rows.length + 1 - (intOf i).toNat)
  case atStart => exact ⟨0, _, by omega, rfl, World.drewN_drewN _ _ _, fun x hx => by simp at hx⟩
  case round =>
  obtain ⟨j, p, hj, rfl, rfl, hok⟩ := hrel
  have HOJ := Lib.hid hok; clear hok
  have j0 : (0 : Int) ≤ (j : Int) := by omega
  by_cases hjt : j < x.rows.length
  case neg =>
    have j1 : ¬ (j : Int) < (x.rows.length : Int) := by omega
    go_wp2
    go_roundw
    case rel => exact ⟨k + 1, _, by have := HLT.out; omega, by go_num, rfl, all_take_step HXE.out HOK.out ⟨H2.out, fun r hr => HOJ.out r (by rw [List.take_of_length_le (by omega)]; exact hr)⟩⟩
    case measure => have := HLT.out; simp [intOf]; omega
  have HJT := Lib.hid hjt
  have j1 : (j : Int) < (x.rows.length : Int) := by omega
  obtain ⟨r, hr⟩ : ∃ r, x.rows[j]? = some r := ⟨_, List.getElem?_eq_getElem hjt⟩
  obtain ⟨T, to9, hB, -, hcell⟩ := HTX.out.rd.get (i := j) (by simpa using hjt)
  have c2 : W.cell? ⟨T, to9 + j, none⟩ = some (.slice r.A r.ns.length r.c) := hcell j (slI r) (by rw [List.getElem?_map, hr]; rfl)
  have HRE := Lib.hid hr
  have HRM := Lib.hid (List.mem_of_getElem? hr)
  have HBE := Lib.hid hB
  have hrl := ((HTX.out.row r (List.mem_of_getElem? hr)).2).2
  unfold maxLen at hrl
  clear hcell hr
  rw [hB] at c1
  clear hB
  by_cases h3 : r.ns.length = n.offs.length
  case neg =>
    have e3 : ((r.ns.length : Int) != (n.offs.length : Int)) = true := by simp; omega
    have HN : Hid (¬ DaysOk n ds) := fun h => h3 ((h.2 x HXM.out).2 r HRM.out)
    clear h3
    go_wp2
    go_quiet (fail)
    go_wp2
    go_ret
    exact ⟨boolR_no HN.out, below_drewN (below_drewN HB0.out _) _⟩
  have H3 := Lib.hid h3
  have e3 : ((r.ns.length : Int) != (n.offs.length : Int)) = false := by rw [h3]; simp
  clear h3
  go_wp2
  go_quiet (fail)
  go_wp2
  go_roundw
  case rel => exact ⟨j + 1, _, by have := HJT.out; omega, by go_num, rfl, all_take_step HRE.out HOJ.out H3.out⟩
  case measure => have := HJT.out; simp [intOf]; omega
/-- The numbers of a table of promises are in range. -/
def DaysIn (ds : List DaC) : Prop := ∀ x ∈ ds, ∀ r ∈ x.rows, ∀ y ∈ r.ns, -1 ≤ y ∧ y ≤ 65518
set_option maxHeartbeats 8000000 in
set_option maxRecDepth 100000 in
theorem rdays8_any (n : Net) (D : Option Addr) (dc : Nat) (ds : List DaC) (w : World) (hn : NetIn w n) (hD : DTab0 w D ds) (hd : ds.length ≤ maxLen) :
    Calls Tryz.prog 74 #[netV n, .slice D ds.length dc] w fun e w' => BoolR (fun b => b = true → DaysOk n ds ∧ DaysIn ds) e ∧ Below w.heap.size w w' := by
  have hb0 := ba w (netO n)
  have hx0 := heap_alloc_new w (netO n)
  have HNP : Hid (NetP (w.alloc (netO n)) w.heap.size n) := ⟨fun i v hv => (cell_of_row _ _ _ _ _ _ hx0).trans hv, hn.below hb0⟩
  have HD0 := Lib.hid (hD.below hb0)
  have HB0 := Lib.hid hb0
  have HDL := Lib.hid hd
  have hlc := hn.lens.2.2.2.2.2
  have hlo := hn.lens.2.2.2.1
  unfold maxLen at hd hlc hlo
  clear hn hD hb0 hx0
  go_enter Tryz.func74, Tryz.ntmps74
  go_upto_region 1 with fail
  change Code.wp _ _ _ _ (w.alloc (netO n))
  generalize (w.alloc (netO n)) = W at *
  obtain ⟨n0, n1, n2, n3, n4, n5⟩ := HNP.out.six
  go_wp2_with fail
  refine (rdays_any n D dc ds _ HNP.out.net HD0.out HDL.out).mono ?_
  rintro e w1 ⟨⟨b, rfl, hbd⟩, hb⟩
  have HB1 := Lib.hid (bt HB0.out hb)
  have HD := Lib.hid (HD0.out.below hb)
  have HBD := Lib.hid hbd
  clear hbd hb n0 n1 n2 n3 n4 n5 HD0 HB0 HNP
  cases b
  case false =>
    go_wp2_with fail
    go_ret
    exact ⟨⟨false, rfl, fun h => by cases h⟩, HB1.out⟩
  have HOK := Lib.hid (HBD.out.1 rfl)
  clear HBD
  go_wp2_with fail
  go_loop [5, 6, 7] (fun i _ _ => ∃ k : Nat, k ≤ ds.length ∧ i = iV k ∧ ∀ x ∈ ds.take k, ∀ r ∈ x.rows, ∀ y ∈ r.ns, -1 ≤ y ∧ y ≤ 65518) (fun i _ _ => ds.length + 1 - (intOf i).toNat)
  case atStart => exact ⟨0, by omega, rfl, fun x hx => by simp at hx⟩
  case round =>
  obtain ⟨k, hk, rfl, hok⟩ := hrel
  have HK := Lib.hid hok; clear hok
  have k0 : (0 : Int) ≤ (k : Int) := by omega
  by_cases hlt : k < ds.length
  case neg =>
    have k1 : ¬ (k : Int) < (ds.length : Int) := by omega
    have HY : Hid (DaysIn ds) := fun x hx => HK.out x (by rw [List.take_of_length_le (by omega)]; exact hx)
    go_wp2_with fail
    go_ret
    exact ⟨⟨true, rfl, fun _ => ⟨HOK.out, HY.out⟩⟩, HB1.out⟩
  have HLT := Lib.hid hlt
  have k1 : (k : Int) < (ds.length : Int) := by omega
  obtain ⟨x, hx⟩ : ∃ x, ds[k]? = some x := ⟨_, List.getElem?_eq_getElem hlt⟩
  obtain ⟨S, so, hA, -, hcell⟩ := HD.out.rd.get (i := k) (by simpa using hlt)
  have c1 : w1.cell? ⟨S, so + k, none⟩ = some (.slice x.A x.rows.length x.c) := hcell k (slD x) (by rw [List.getElem?_map, hx]; rfl)
  have HTX := Lib.hid (HD.out.row x (List.mem_of_getElem? hx)).1
  have hxl := (HD.out.row x (List.mem_of_getElem? hx)).2
  have HXE := Lib.hid hx
  have HAE := Lib.hid hA
  unfold maxLen at hxl
  clear hcell hx
  rw [hA]
  clear hA
  go_wp2_with fail
  go_loop [6, 7] (fun i _ => ∃ j : Nat, j ≤ x.rows.length ∧ i = iV j ∧ ∀ r ∈ x.rows.take j, ∀ y ∈ r.ns, -1 ≤ y ∧ y ≤ 65518) (fun i _ => x.rows.length + 1 - (intOf i).toNat)
  case atStart => exact ⟨0, by omega, rfl, fun x hx => by simp at hx⟩
  case round =>
  obtain ⟨j, hj, rfl, hok⟩ := hrel
  have HJ := Lib.hid hok; clear hok
  have j0 : (0 : Int) ≤ (j : Int) := by omega
  by_cases hjt : j < x.rows.length
  case neg =>
    have j1 : ¬ (j : Int) < (x.rows.length : Int) := by omega
    go_wp2_with fail
    go_round
    case rel => exact ⟨k + 1, by have := HLT.out; omega, by go_num, all_take_step HXE.out HK.out (fun r hr => HJ.out r (by rw [List.take_of_length_le (by omega)]; exact hr))⟩
    case measure => have := HLT.out; simp [intOf]; omega
  have HJT := Lib.hid hjt
  have j1 : (j : Int) < (x.rows.length : Int) := by omega
  obtain ⟨r, hr⟩ : ∃ r, x.rows[j]? = some r := ⟨_, List.getElem?_eq_getElem hjt⟩
  obtain ⟨T, to9, hB, -, hcell⟩ := HTX.out.rd.get (i := j) (by simpa using hjt)
  have c2 : w1.cell? ⟨T, to9 + j, none⟩ = some (.slice r.A r.ns.length r.c) := hcell j (slI r) (by rw [List.getElem?_map, hr]; rfl)
  have HRE := Lib.hid hr
  have HRD := Lib.hid (HTX.out.row r (List.mem_of_getElem? hr)).1
  have HBE := Lib.hid hB
  have hrl := ((HTX.out.row r (List.mem_of_getElem? hr)).2).2
  unfold maxLen at hrl
  clear hcell hr
  rw [hB] at c1
  clear hB
  go_wp2_with fail
  go_loop [7] (fun i => ∃ d : Nat, d ≤ r.ns.length ∧ i = iV d ∧ ∀ y ∈ r.ns.take d, -1 ≤ y ∧ y ≤ 65518) (fun i => r.ns.length + 1 - (intOf i).toNat)
  case atStart => exact ⟨0, by omega, rfl, fun x hx => by simp at hx⟩
  case round =>
  obtain ⟨d, hdd, rfl, hok⟩ := hrel
  have HQ := Lib.hid hok; clear hok
  have d0 : (0 : Int) ≤ (d : Int) := by omega
  by_cases hdt : d < r.ns.length
  case neg =>
    have d1 : ¬ (d : Int) < (r.ns.length : Int) := by omega
    go_wp2_with fail
    go_round
    case rel => exact ⟨j + 1, by have := HJT.out; omega, by go_num, all_take_step HRE.out HJ.out (fun y hy => HQ.out y (by rw [List.take_of_length_le (by omega)]; exact hy))⟩
    case measure => have := HJT.out; simp [intOf]; omega
  have HDT := Lib.hid hdt
  have d1 : (d : Int) < (r.ns.length : Int) := by omega
  obtain ⟨y, hy⟩ : ∃ y, r.ns[d]? = some y := ⟨_, List.getElem?_eq_getElem hdt⟩
  obtain ⟨U, uo, hU, -, hcell⟩ := HRD.out.get (i := d) (by simpa using hdt)
  have c3 : w1.cell? ⟨U, uo + d, none⟩ = some (iV y) := hcell d (iV y) (by rw [List.getElem?_map, hy]; rfl)
  have HYE := Lib.hid hy
  have HUE := Lib.hid hU
  clear hcell hy
  rw [hU] at c2
  clear hU
  by_cases y1 : y < -1
  case pos =>
    go_wp2_with fail
    go_ret
    exact ⟨⟨false, rfl, fun h => by cases h⟩, HB1.out⟩
  by_cases y2 : 65518 < y
  case pos =>
    go_wp2_with fail
    go_ret
    exact ⟨⟨false, rfl, fun h => by cases h⟩, HB1.out⟩
  have HYY : Hid (-1 ≤ y ∧ y ≤ 65518) := ⟨by omega, by omega⟩
  go_wp2_with fail
  go_round
  case rel => exact ⟨d + 1, by have := HDT.out; omega, by go_num, all_take_step HYE.out HQ.out HYY.out⟩
  case measure => have := HDT.out; simp [intOf]; omega
abbrev planV (fr till : Int) (A : Option Addr) (len c : Nat) (D : Option Addr) (dl dc : Nat) : Value := .agg #[iV fr, iV till, .slice A len c, .slice D dl dc]
/-- The boxes of a law's or a reference's network and plan. -/
structure Nb (w W : World) (X : Nat) (n : Net) (fr till : Int) (A : Option Addr) (c : Nat) (nx : List NsC) (D : Option Addr) (dc : Nat) (ds : List DaC) : Prop where
  bel : Below X w W
  net : W.heap[X]? = some (netO n)
  plan : W.heap[X + 1]? = some (planO fr till A nx.length c D ds.length dc)
  nin : NetIn W n
  tab : Tab W A nx
  dtab : DTab0 W D ds
theorem Nb.below {w W W' : World} {X : Nat} {n : Net} {fr till : Int} {A : Option Addr} {c : Nat} {nx : List NsC} {D : Option Addr} {dc : Nat} {ds : List DaC} (h : Nb w W X n fr till A c nx D dc ds) (hb : Below W.heap.size W W') : Nb w W' X n fr till A c nx D dc ds :=
  ⟨h.bel.trans (hb.mono (by have := block_lt h.net; omega)), (hb.block _ (block_lt h.net)).trans h.net, (hb.block _ (block_lt h.plan)).trans h.plan, h.nin.below hb, h.tab.below hb, h.dtab.below hb⟩
theorem Nb.new (w : World) {n : Net} {A : Option Addr} {nx : List NsC} {D : Option Addr} {ds : List DaC} (fr till : Int) (c dc : Nat) (hn : NetIn w n) (hT : Tab w A nx) (hD : DTab0 w D ds) : Nb w ((w.alloc (netO n)).alloc (planO fr till A nx.length c D ds.length dc)) w.heap.size n fr till A c nx D dc ds := by
  have hb : Below w.heap.size w ((w.alloc (netO n)).alloc (planO fr till A nx.length c D ds.length dc)) := ((Below.refl _ w).alloc (Nat.le_refl _) _).alloc (by simp) _
  have h1 := heap_alloc_new (w.alloc (netO n)) (planO fr till A nx.length c D ds.length dc)
  rw [World.size_alloc] at h1
  exact ⟨hb, (Below.heap_alloc _ _ _ (by simp)).trans (heap_alloc_new _ _), h1, hn.below hb, hT.below hb, hD.below hb⟩
theorem Nb.cells {w W : World} {X : Nat} {n : Net} {fr till : Int} {A : Option Addr} {c : Nat} {nx : List NsC} {D : Option Addr} {dc : Nat} {ds : List DaC} (h : Nb w W X n fr till A c nx D dc ds) : (W.cell? ⟨X, 0, none⟩ = some (.slice n.calA n.cals.length n.calC) ∧ W.cell? ⟨X, 1, none⟩ = some (.slice n.namA n.names.length n.namC) ∧ W.cell? ⟨X, 2, none⟩ = some (.slice n.opA n.ops.length n.opC) ∧ W.cell? ⟨X, 3, none⟩ = some (.slice n.offA n.offs.length n.offC) ∧ W.cell? ⟨X, 4, none⟩ = some (.slice n.linA n.lins.length n.linC) ∧ W.cell? ⟨X, 5, none⟩ = some (.slice n.clsA n.clss.length n.clsC)) ∧
    W.cell? ⟨X + 1, 0, none⟩ = some (iV fr) ∧ W.cell? ⟨X + 1, 1, none⟩ = some (iV till) ∧ W.cell? ⟨X + 1, 2, none⟩ = some (.slice A nx.length c) ∧ W.cell? ⟨X + 1, 3, none⟩ = some (.slice D ds.length dc) :=
  ⟨⟨cell_of_row _ _ 0 _ _ _ h.net, cell_of_row _ _ 1 _ _ _ h.net, cell_of_row _ _ 2 _ _ _ h.net, cell_of_row _ _ 3 _ _ _ h.net, cell_of_row _ _ 4 _ _ _ h.net, cell_of_row _ _ 5 _ _ _ h.net⟩,
   cell_of_row _ _ 0 _ _ _ h.plan, cell_of_row _ _ 1 _ _ _ h.plan, cell_of_row _ _ 2 _ _ _ h.plan, cell_of_row _ _ 3 _ _ _ h.plan⟩
/-- A network and a plan are small. -/
def Sm8 (n : Net) (ds : List DaC) : Prop := (FewN n ∧ n.offs.length ≤ 6) ∧ n.clss.length ≤ 3 ∧ ds.length ≤ 5 ∧ ∀ x ∈ ds, x.rows.length ≤ 10
set_option maxHeartbeats 8000000 in
set_option maxRecDepth 100000 in
theorem small8_any (n : Net) (fr till : Int) (A : Option Addr) (c : Nat) (nx : List NsC) (D : Option Addr) (dc : Nat) (ds : List DaC) (w : World) (hn : NetIn w n) (hT : Tab w A nx) (hx : nx.length ≤ maxLen) (hD : DTab0 w D ds) (hd : ds.length ≤ maxLen) :
    Calls Tryz.prog 29 #[netV n, planV fr till A nx.length c D ds.length dc] w fun e w' => BoolR (fun b => b = true → Sm8 n ds) e ∧ Below w.heap.size w w' := by
  have HNB := Lib.hid (Nb.new w fr till c dc hn hT hD)
  have HX := Lib.hid hx
  have hlc := hn.lens.2.2.2.2.2
  unfold maxLen at hd hlc
  clear hn hT hx hD
  go_enter Tryz.func29, Tryz.ntmps29
  go_upto_region 1 with fail
  change Code.wp _ _ _ _ ((w.alloc (netO n)).alloc (planO fr till A nx.length c D ds.length dc))
  generalize ((w.alloc (netO n)).alloc (planO fr till A nx.length c D ds.length dc)) = W at *
  obtain ⟨⟨n0, n1, n2, n3, n4, n5⟩, p0, p1, p2, p3⟩ := HNB.out.cells
  go_wp2_with fail
  refine (small_any n A c nx _ HNB.out.nin HNB.out.tab HX.out).mono ?_
  rintro e w1 ⟨⟨b, rfl, hbd⟩, hb⟩
  have HN1 := Lib.hid (HNB.out.below hb)
  have HBD := Lib.hid hbd
  have HNO : Hid (BoolR (fun b => b = true → Sm8 n ds) (.returned (.bool false)) ∧ Below w.heap.size w w1) := ⟨⟨false, rfl, fun h => by cases h⟩, HN1.out.bel⟩
  clear hb hbd HNB n0 n1 n2 n3 n4 n5 p0 p1 p2 p3
  cases b
  case false =>
    go_wp2_with fail
    go_ret
    exact HNO.out
  have HFW : Hid (FewN n ∧ n.offs.length ≤ 6) := HBD.out rfl
  clear HBD
  obtain ⟨⟨n0, n1, n2, n3, n4, n5⟩, p0, p1, p2, p3⟩ := HN1.out.cells
  by_cases hc3 : 3 < n.clss.length
  case pos =>
    have hc3' : (3 : Int) < (n.clss.length : Int) := by omega
    go_wp2_with fail
    go_ret
    exact HNO.out
  have hc3' : ¬ (3 : Int) < (n.clss.length : Int) := by omega
  by_cases hd5 : 5 < ds.length
  case pos =>
    have hd5' : (5 : Int) < (ds.length : Int) := by omega
    go_wp2_with fail
    all_goals
      go_ret
      exact HNO.out
  have hd5' : ¬ (5 : Int) < (ds.length : Int) := by omega
  by_cases t0 : wrap64 (fr + 12) < till ∧ till ≤ wrap64 (fr + 60)
  case pos =>
    obtain ⟨t1, t2⟩ := t0
    go_wp2_with fail
    go_ret
    exact HNO.out
  by_cases t1 : wrap64 (fr + 12) < till
  all_goals
    have t2 : ¬ (wrap64 (fr + 12) < till) ∨ ¬ (till ≤ wrap64 (fr + 60)) := by omega
    go_upto_region 3 with fail
    clear t0 t1 t2 n0 n1 n2 n3 n4 n5 p0 p1 p2
    go_wp2_with fail
    go_loop [5, 6] (fun i _ => ∃ k : Nat, k ≤ ds.length ∧ i = iV k ∧ ∀ x ∈ ds.take k, x.rows.length ≤ 10) (fun i _ => ds.length + 1 - (intOf i).toNat)
    case atStart => exact ⟨0, by omega, rfl, fun x hx => by simp at hx⟩
    case round =>
    obtain ⟨k, hk, rfl, hok⟩ := hrel
    have HK := Lib.hid hok; clear hok
    have k0 : (0 : Int) ≤ (k : Int) := by omega
    by_cases hlt : k < ds.length
    case neg =>
      have k1 : ¬ (k : Int) < (ds.length : Int) := by omega
      have HY : Hid (Sm8 n ds) := ⟨HFW.out, by omega, by omega, fun x hx => HK.out x (by rw [List.take_of_length_le (by omega)]; exact hx)⟩
      go_wp2_with fail
      go_ret
      exact ⟨⟨true, rfl, fun _ => HY.out⟩, HN1.out.bel⟩
    have HLT := Lib.hid hlt
    have k1 : (k : Int) < (ds.length : Int) := by omega
    obtain ⟨x, hx⟩ : ∃ x, ds[k]? = some x := ⟨_, List.getElem?_eq_getElem hlt⟩
    obtain ⟨S, so, hA, -, hcell⟩ := HN1.out.dtab.rd.get (i := k) (by simpa using hlt)
    have c1 : w1.cell? ⟨S, so + k, none⟩ = some (.slice x.A x.rows.length x.c) := hcell k (slD x) (by rw [List.getElem?_map, hx]; rfl)
    have HTX := Lib.hid (HN1.out.dtab.row x (List.mem_of_getElem? hx)).1
    have hxl := (HN1.out.dtab.row x (List.mem_of_getElem? hx)).2
    have HXE := Lib.hid hx
    have HAE := Lib.hid hA
    unfold maxLen at hxl
    clear hcell hx
    rw [hA] at p3
    clear hA
    by_cases h10 : 10 < x.rows.length
    case pos =>
      have h10' : (10 : Int) < (x.rows.length : Int) := by omega
      go_wp2_with fail
      go_ret
      exact HNO.out
    have h10' : ¬ (10 : Int) < (x.rows.length : Int) := by omega
    go_wp2_with fail
    go_loop [6] (fun i => ∃ j : Nat, j ≤ x.rows.length ∧ i = iV j) (fun i => x.rows.length + 1 - (intOf i).toNat)
    case atStart => exact ⟨0, by omega, rfl⟩
    case round =>
    obtain ⟨j, hj, rfl⟩ := hrel
    have j0 : (0 : Int) ≤ (j : Int) := by omega
    by_cases hjt : j < x.rows.length
    case neg =>
      have j1 : ¬ (j : Int) < (x.rows.length : Int) := by omega
      go_wp2_with fail
      go_round
      case rel => exact ⟨k + 1, by have := HLT.out; omega, by go_num, all_take_step HXE.out HK.out (by omega)⟩
      case measure => have := HLT.out; simp [intOf]; omega
    have HJT := Lib.hid hjt
    have j1 : (j : Int) < (x.rows.length : Int) := by omega
    obtain ⟨r, hr⟩ : ∃ r, x.rows[j]? = some r := ⟨_, List.getElem?_eq_getElem hjt⟩
    obtain ⟨T, to9, hB, -, hcell⟩ := HTX.out.rd.get (i := j) (by simpa using hjt)
    have c2 : w1.cell? ⟨T, to9 + j, none⟩ = some (.slice r.A r.ns.length r.c) := hcell j (slI r) (by rw [List.getElem?_map, hr]; rfl)
    have hrl := ((HTX.out.row r (List.mem_of_getElem? hr)).2).2
    have HBE := Lib.hid hB
    unfold maxLen at hrl
    clear hcell hr
    rw [hB] at c1
    clear hB
    by_cases hr10 : 10 < r.ns.length
    case pos =>
      have hr10' : (10 : Int) < (r.ns.length : Int) := by omega
      go_wp2_with fail
      go_ret
      exact HNO.out
    have hr10' : ¬ (10 : Int) < (r.ns.length : Int) := by omega
    go_wp2_with fail
    go_round
    case rel => exact ⟨j + 1, by have := HJT.out; omega, by go_num⟩
    case measure => have := HJT.out; simp [intOf]; omega
end Go.Proofs.YtjpabeoflhkfkaaGreatDoor
