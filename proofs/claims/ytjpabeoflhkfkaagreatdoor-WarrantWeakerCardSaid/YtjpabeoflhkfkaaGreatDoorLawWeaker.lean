/-
  The walk over the law WarrantWeaker.
-/
import Derived.Test.YtjpabeoflhkfkaaGreatDoorWarRaise
import Derived.Test.YtjpabeoflhkfkaaGreatDoorLawWritten
namespace Go.Proofs.YtjpabeoflhkfkaaGreatDoor
open Go.RowKit
attribute [local go_sem] Oper.semAt_some

abbrev u8V (x : Int) : Value := .int .u8 x
theorem DsAt.of {n : Net} {ds : List DaC} (h : ds.length = n.clss.length) (hs : ∀ x ∈ ds, Sq n.offs.length x.rows) {k o d : Nat} (hk : k < n.clss.length) (ho : o < n.offs.length) (hd : d < n.offs.length) : ∃ y, DsAt ds k o d y := by
  have h1 : ds[k]? = some ds[k] := List.getElem?_eq_getElem (by omega)
  obtain ⟨a, b⟩ := hs _ (List.mem_of_getElem? h1)
  have h2 : ds[k].rows[o]? = some ds[k].rows[o] := List.getElem?_eq_getElem (by omega)
  have h3 := b _ (List.mem_of_getElem? h2)
  exact ⟨_, _, _, h1, h2, List.getElem?_eq_getElem (by omega)⟩
theorem mod_nat {a m : Nat} (hm : 0 < m) : ∃ k : Nat, (a : Int) % (m : Int) = (k : Int) ∧ k < m := ⟨a % m, by rw [← Int.natCast_emod], Nat.mod_lt _ hm⟩
theorem TabB.grown {W W' : World} {B G : Nat} {es : List DaC} {row : Option Nat} (h : TabB W B G es) (hg : W.grownBy W' row) (hne : ∀ j cs, row = some j → W.heap[j]? ≠ some (.cells cs 3 (0, 0)) ∧ W.heap[j]? ≠ some (.cells cs 25 (0, 0)) ∧ W.heap[j]? ≠ some (.cells cs 37 (0, 0))) : TabB W' B G es := by
  obtain ⟨cs, h1⟩ := h.blk
  obtain ⟨a, b⟩ := rd_grown h.rd h1 hg (fun e => (hne G cs e.symm).2.2 h1)
  exact ⟨⟨cs, a⟩, h.ge, b, fun x hx => (h.day x hx).grown hg (fun j cs e => ⟨(hne j cs e).1, (hne j cs e).2.1⟩), h.up⟩
theorem grown_set8 (W : World) (b j : Nat) (v : Value) : W.grownBy (W.setCell ⟨b, j, none⟩ v) (some b) :=
  ⟨rfl, rfl, rfl, by simp, fun i _ hne => Below.heap_setCell _ _ _ _ (by show i ≠ b; intro e; exact hne (by rw [e]))⟩
theorem TabB.setP {W : World} {B G Z : Nat} {es : List DaC} {cs : Array Value} (h : TabB W B G es) (hz : W.heap[Z]? = some (.cells cs 40 (0, 0))) (j : Nat) (v : Value) : TabB (W.setCell ⟨Z, j, none⟩ v) B G es :=
  h.grown (grown_set8 W Z j v) (fun q cs' e => by
    obtain rfl : Z = q := Option.some.inj e
    rw [hz]
    refine ⟨fun e => ?_, fun e => ?_, fun e => ?_⟩ <;> (injection e with e; injection e with _ e _; exact absurd e (by decide)))
theorem TabB.fine {W : World} {B G : Nat} {n : Net} {fr till : Int} {nx : List NsC} {es : List DaC} (h : TabB W B G es) (hF : Fine n fr till nx es) (h6 : n.offs.length ≤ 6) : DTab W (some ⟨G, 0, none⟩) es :=
  h.dtab (fun x hx => ⟨by have := (hF.days x hx).1.1; omega, fun r hr => ⟨fun y hy => by have := (hF.days x hx).2 r hr y hy; unfold I64; omega, by have := (hF.days x hx).1.2 r hr; unfold maxLen; omega⟩⟩)
theorem fine_setN {n : Net} {fr till : Int} {nx : List NsC} {es : List DaC} (h : Fine n fr till nx es) {k o d : Nat} {v : Int} {x : DaC} {r : NsC} (h1 : es[k]? = some x) (h2 : x.rows[o]? = some r) (hv : -1 ≤ v ∧ v ≤ 65518) : Fine n fr till nx (setN es k o d v x r) := by
  refine ⟨h.rng, h.next, h.nextL, by unfold setN; rw [List.length_set]; exact h.dsL, fun x' hx' => ?_⟩
  rcases List.mem_or_eq_of_mem_set hx' with hx' | rfl
  · exact h.days x' hx'
  · obtain ⟨⟨a, b⟩, c⟩ := h.days x (List.mem_of_getElem? h1)
    refine ⟨⟨by simpa using a, fun q hq => ?_⟩, fun q hq z hz => ?_⟩
    · rcases List.mem_or_eq_of_mem_set hq with hq | rfl
      · exact b q hq
      · simpa using b r (List.mem_of_getElem? h2)
    · rcases List.mem_or_eq_of_mem_set hq with hq | rfl
      · exact c q hq z hz
      · rcases List.mem_or_eq_of_mem_set hz with hz | rfl
        · exact c r (List.mem_of_getElem? h2) z hz
        · exact hv
theorem raised_fine {n : Net} {fr till : Int} {nx : List NsC} {ds : List DaC} (hF : Fine n fr till nx ds) (hG : Good n) (h1 : 0 < n.clss.length) (h2 : 0 < n.offs.length) (h6 : n.offs.length ≤ 6) (D : Option Addr) (dc : Nat) (by_ : Int) (w : World) (hD : DTab0 w D ds) (b1 : 0 ≤ by_) (b2 : by_ ≤ 256) :
    Calls Tryz.prog 23 #[.slice D ds.length dc, iV by_] w (RaisedR w ds by_) := by
  have h4 := hG.few.2.2.2
  have hl := hF.dsL
  exact raisedT_any D dc ds by_ w hD (by omega) (by omega) (fun x hx => by
    obtain ⟨⟨a, b⟩, c⟩ := hF.days x hx
    exact ⟨by omega, by omega, fun r hr => ⟨by have := b r hr; omega, by have := b r hr; omega, c r hr⟩⟩) b1 b2
theorem TabV.daysOk {n : Net} {val : Nat → Nat → Nat → Int} {ts : List DaC} (h : TabV n val ts) : DaysOk n ts :=
  ⟨h.1, fun x hx => by
    obtain ⟨k, hk⟩ := mem_get hx
    refine ⟨(h.2 k x hk).1, fun r hr => ?_⟩
    obtain ⟨o, ho⟩ := mem_get hr
    exact ((h.2 k x hk).2 o r ho).1⟩
/-- All numbers of a table are small. -/
def NumsLe (ds : List DaC) (m : Int) : Prop := ∀ x ∈ ds, ∀ r ∈ x.rows, ∀ y ∈ r.ns, y ≤ m
set_option maxHeartbeats 8000000 in
set_option maxRecDepth 100000 in
theorem weaker_any (n : Net) (fr till : Int) (A : Option Addr) (c : Nat) (nx : List NsC) (D : Option Addr) (dc : Nat) (ds : List DaC) (b8 k8 o8 d8 : Nat) (m : Int) (w : World) (hn : NetIn w n) (hT : Tab w A nx) (hx : nx.length ≤ maxLen) (hD : DTab0 w D ds) (hd : ds.length ≤ maxLen)
    (b1 : b8 ≤ 255) (b2 : k8 ≤ 255) (b3 : o8 ≤ 255) (b4 : d8 ≤ 255) (hk : KW w) (hm : w.cell? ⟨1, 0, none⟩ = some (iV m)) :
    Calls Tryz.prog 7 #[netV n, planV fr till A nx.length c D ds.length dc, u8V b8, u8V k8, u8V o8, u8V d8] w fun e w' => e = .returned (.bool true) ∧ Below w.heap.size w w' := by
  have HL0 := Lib.hid (Lw.new w fr till c dc hn hT hD hk hm)
  have HX := Lib.hid hx
  have HY := Lib.hid hd
  have HN0 := Lib.hid (And.intro hn (And.intro hT (And.intro hk hm)))
  have hlc := hn.lens.2.2.2.2.2
  have hlo := hn.lens.2.2.2.1
  unfold maxLen at hlc hlo
  clear hn hT hx hD hd hk hm
  go_enter Tryz.func7, Tryz.ntmps7
  go_upto_region 1 with fail
  change Code.wp _ _ _ _ ((w.alloc (netO n)).alloc (planO fr till A nx.length c D ds.length dc))
  generalize ((w.alloc (netO n)).alloc (planO fr till A nx.length c D ds.length dc)) = W at *
  go_wp2_with fail
  refine (head8_any _ m HL0.out.kw HL0.out.max).mono ?_
  rintro e w1 ⟨rfl, hb⟩
  have HL := Lib.hid (HL0.out.below hb)
  clear hb HL0
  obtain ⟨⟨n0, n1, n2, n3, n4, n5⟩, p0, p1, p2, p3⟩ := HL.out.nb.cells
  go_wp2_with fail
  refine (fine8_any n fr till A c nx D dc ds _ HL.out.nb.nin HL.out.nb.tab HX.out HL.out.nb.dtab HY.out).mono ?_
  rintro e w2 ⟨⟨b, rfl, hbd⟩, hb⟩
  have HL2 := Lib.hid (HL.out.below hb)
  have HV0 := Lib.hid hbd
  clear hb hbd HL n0 n1 n2 n3 n4 n5 p0 p1 p2 p3
  cases b
  case false =>
    go_wp2_with fail
    go_ret
    exact ⟨rfl, HL2.out.nb.bel⟩
  have HV := Lib.hid (HV0.out rfl)
  clear HV0
  obtain ⟨⟨n0, n1, n2, n3, n4, n5⟩, p0, p1, p2, p3⟩ := HL2.out.nb.cells
  by_cases g1 : n.clss.length = 0
  case pos =>
    have g2 : ((n.clss.length : Int) == 0) = true := by simp [g1]
    clear g1
    go_wp2_with fail
    go_ret
    exact ⟨rfl, HL2.out.nb.bel⟩
  have g2 : ((n.clss.length : Int) == 0) = false := by rw [beq_eq_false_iff_ne]; omega
  by_cases g3 : n.offs.length = 0
  case pos =>
    have g4 : ((n.offs.length : Int) == 0) = true := by simp [g3]
    clear g1 g3
    go_wp2_with fail
    go_ret
    exact ⟨rfl, HL2.out.nb.bel⟩
  have g4 : ((n.offs.length : Int) == 0) = false := by rw [beq_eq_false_iff_ne]; omega
  have HPO : Hid (0 < n.clss.length ∧ 0 < n.offs.length) := ⟨by omega, by omega⟩
  clear g1 g3
  have hdl : ds.length ≤ 5 := HV.out.dsl
  go_upto_region 5 with fail
  clear g2 g4 n0 n1 n2 n3 n4 n5 p0 p1 p2 p3
  go_wp2_with fail
  go_loopw [14, 15, 16] (fun i _ _ wr => ∃ k : Nat, k ≤ ds.length ∧ i = iV k ∧ NumsLe (ds.take k) 60000 ∧ Below w2.heap.size w2 wr) (fun i _ _ _ => ds.length + 1 - (intOf i).toNat)
  case atStart => exact ⟨0, by omega, rfl, fun x hx => (by cases hx), Below.refl _ _⟩
  case round =>
  obtain ⟨k, hk, rfl, hnl, hb⟩ := hrel
  have HNL := Lib.hid hnl
  have HBR := Lib.hid hb
  clear hnl hb
  have HLR := Lib.hid (HL2.out.below HBR.out)
  have k0 : (0 : Int) ≤ (k : Int) := by omega
  by_cases hkt : k < ds.length
  case pos =>
    have HKT := Lib.hid hkt
    have k1 : (k : Int) < (ds.length : Int) := by omega
    obtain ⟨x, hx⟩ : ∃ x, ds[k]? = some x := ⟨_, List.getElem?_eq_getElem hkt⟩
    have HXE := Lib.hid hx
    have hx10 : x.rows.length ≤ 10 := HV.out.rows x (List.mem_of_getElem? hx)
    have HXD := Lib.hid (HV.out.fine.days x (List.mem_of_getElem? hx))
    clear hx
    obtain ⟨-, -, -, -, p3⟩ := HLR.out.nb.cells
    go_upto_region 8 with fail
    clear p3
    go_wp2_with fail
    go_loopw [15, 16] (fun i _ wr => ∃ o : Nat, o ≤ x.rows.length ∧ i = iV o ∧ (∀ r ∈ x.rows.take o, ∀ y ∈ r.ns, y ≤ 60000) ∧ Below w2.heap.size w2 wr) (fun i _ _ => x.rows.length + 1 - (intOf i).toNat)
    case atStart => exact ⟨0, by omega, rfl, fun x hx => (by cases hx), HBR.out⟩
    case round =>
    obtain ⟨o, ho, rfl, hnl, hb⟩ := hrel
    clear HBR HLR
    have HOL := Lib.hid hnl
    have HBR := Lib.hid hb
    clear hnl hb
    have HLR := Lib.hid (HL2.out.below HBR.out)
    have o0 : (0 : Int) ≤ (o : Int) := by omega
    obtain ⟨-, -, -, -, p3⟩ := HLR.out.nb.cells
    obtain ⟨U, uo, hU, c0⟩ := day_at HLR.out.nb.dtab HXE.out
    have HUE := Lib.hid hU
    rw [hU] at p3
    clear hU
    by_cases hot : o < x.rows.length
    case neg =>
      have o1 : ¬ (o : Int) < (x.rows.length : Int) := by omega
      go_wp2_with fail
      go_roundw
      case rel => exact ⟨k + 1, by have := HKT.out; omega, by go_num, all_take_step HXE.out HNL.out (by have := HOL.out; rwa [List.take_of_length_le (by omega)] at this), HBR.out⟩
      case measure => have := HKT.out; simp [intOf]; omega
    have HOT := Lib.hid hot
    have o1 : (o : Int) < (x.rows.length : Int) := by omega
    obtain ⟨r, hr⟩ : ∃ r, x.rows[o]? = some r := ⟨_, List.getElem?_eq_getElem hot⟩
    have HRE := Lib.hid hr
    have hr6 : r.ns.length ≤ 6 := by have := HXD.out.1.2 r (List.mem_of_getElem? hr); have := HV.out.offs; omega
    have HRV := Lib.hid (HXD.out.2 r (List.mem_of_getElem? hr))
    have HTX := Lib.hid ((HL2.out.nb.dtab.row x (List.mem_of_getElem? HXE.out)).1)
    clear hr
    go_upto_region 11 with fail
    clear p3 c0
    go_wp2_with fail
    go_loopw [16] (fun i wr => ∃ d : Nat, d ≤ r.ns.length ∧ i = iV d ∧ (∀ y ∈ r.ns.take d, y ≤ 60000) ∧ Below w2.heap.size w2 wr) (fun i _ => r.ns.length + 1 - (intOf i).toNat)
    case atStart => exact ⟨0, by omega, rfl, fun x hx => (by cases hx), HBR.out⟩
    case round =>
    obtain ⟨d, hd, rfl, hnl, hb⟩ := hrel
    clear HBR HLR
    have HDL := Lib.hid hnl
    have HBR := Lib.hid hb
    clear hnl hb
    have HLR := Lib.hid (HL2.out.below HBR.out)
    have d0 : (0 : Int) ≤ (d : Int) := by omega
    obtain ⟨-, -, -, -, p3⟩ := HLR.out.nb.cells
    obtain ⟨U, uo, hU, c0⟩ := day_at HLR.out.nb.dtab HXE.out
    have HUE := Lib.hid hU
    rw [hU] at p3
    clear hU
    by_cases hdt : d < r.ns.length
    case neg =>
      have d1 : ¬ (d : Int) < (r.ns.length : Int) := by omega
      obtain ⟨S, so, hA, c1⟩ := row_at (HTX.out.below HBR.out) HRE.out
      have HAE := Lib.hid hA
      rw [hA] at c0
      clear hA
      go_wp2_with fail
      go_roundw
      case rel => exact ⟨o + 1, by have := HOT.out; omega, by go_num, all_take_step HRE.out HOL.out (by have := HDL.out; rwa [List.take_of_length_le (by omega)] at this), HBR.out⟩
      case measure => have := HOT.out; simp [intOf]; omega
    have HDT := Lib.hid hdt
    have d1 : (d : Int) < (r.ns.length : Int) := by omega
    obtain ⟨y, hy⟩ : ∃ y, r.ns[d]? = some y := ⟨_, List.getElem?_eq_getElem hdt⟩
    have HYE := Lib.hid hy
    obtain ⟨S, so, T, tt, hA, hB, c1, c2⟩ := tab_at (HTX.out.below HBR.out) HRE.out hy
    have hyv := HRV.out y (List.mem_of_getElem? hy)
    have HAE := Lib.hid hA
    have HBE := Lib.hid hB
    rw [hA] at c0
    rw [hB] at c1
    clear hA hB hy
    by_cases hy6 : (60000 : Int) < y
    case pos =>
      go_wp2_with fail
      go_ret
      exact ⟨rfl, HLR.out.nb.bel⟩
    have HY6 : Hid (y ≤ 60000) := by show _ ≤ _; omega
    go_wp2_with fail
    go_roundw
    case rel => exact ⟨d + 1, by have := HDT.out; omega, by go_num, all_take_step HYE.out HDL.out HY6.out, HBR.out⟩
    case measure => have := HDT.out; simp [intOf]; omega
  have k1 : ¬ (k : Int) < (ds.length : Int) := by omega
  have HNM : Hid (NumsLe ds 60000) := by
    have := HNL.out
    show NumsLe _ _
    rwa [List.take_of_length_le (by omega)] at this
  clear HNL HL2 HBR
  obtain ⟨⟨n0, n1, n2, n3, n4, n5⟩, p0, p1, p2, p3⟩ := HLR.out.nb.cells
  have hx6 : nx.length ≤ 1000000 := by have := HV.out.fine.next.1; have := HV.out.offs; omega
  have hd6 : ds.length ≤ 1000000 := by have := HV.out.dsl; omega
  have HTW := Lib.hid (HLR.out.nb.dtab.few (fun x hx => by have := HV.out.rows x hx; omega))
  go_wp2_with fail
  refine (write_any n fr till A c nx D dc ds _ HLR.out.nb.nin HLR.out.nb.tab hx6 HTW.out hd6 HLR.out.kw).mono ?_
  rintro e w3 ⟨hb, B, b, rfl, hr, hb1, hb2⟩
  have HL3 := Lib.hid (HLR.out.below hb)
  clear hb HLR HTW n0 n1 n2 n3 n4 n5 p0 p1 p2 p3
  generalize hwt : writeTop n fr till nx ds = wt at *
  have HWT := Lib.hid hwt; clear hwt
  obtain ⟨we, wn⟩ := wt
  have HC4 := Lib.hid (heap_alloc_new w3 (.cells #[.slice B wn.length b, iV (sealW (we, wn))] 43))
  have HBC := ba w3 (.cells #[.slice B wn.length b, iV (sealW (we, wn))] 43)
  have HL4 := Lib.hid (HL3.out.below HBC)
  have HR4 := Lib.hid (hr.below HBC)
  have HCB := Lib.hid (And.intro hb1 hb2)
  clear HBC hr HL3 hb1 hb2
  go_upto_region 16 with fail
  change Code.wp _ _ _ _ (w3.alloc (.cells #[.slice B wn.length b, iV (sealW (we, wn))] 43))
  generalize (w3.alloc (.cells #[.slice B wn.length b, iV (sealW (we, wn))] 43)) = W4 at *
  generalize w3.heap.size = Z1 at *
  obtain ⟨⟨n0, n1, n2, n3, n4, n5⟩, p0, p1, p2, p3⟩ := HL4.out.nb.cells
  have HB5 := Lib.hid (ba W4 (planO fr till A nx.length c D ds.length dc))
  have HQ5 := Lib.hid (heap_alloc_new W4 (planO fr till A nx.length c D ds.length dc))
  have HL5 := Lib.hid (HL4.out.below HB5.out)
  go_upto_region 17 with fail
  change Code.wp _ _ _ _ (W4.alloc (planO fr till A nx.length c D ds.length dc))
  generalize (W4.alloc (planO fr till A nx.length c D ds.length dc)) = W5 at *
  have HZ2 := Lib.hid HB5.out.size
  clear n0 n1 n2 n3 n4 n5 p0 p1 p2 p3
  obtain ⟨-, -, -, -, p3⟩ := HL5.out.nb.cells
  have y0 : (0 : Int) ≤ (b8 : Int) := by omega
  have y1 : (b8 : Int) ≤ 255 := by omega
  go_wp2_with fail
  refine (raised_fine HV.out.fine HV.out.sound.1.good HPO.out.1 HPO.out.2 HV.out.offs D dc (1 + (b8 : Int)) _ HL5.out.nb.dtab (by omega) (by omega)).mono ?_
  rintro e w6 ⟨G, gc, es, rfl, hT, hnum, hb⟩
  have HNE := Lib.hid hnum
  have hq6 : w6.heap[W4.heap.size]? = some (planO fr till A nx.length c D ds.length dc) := (hb.block _ (block_lt HQ5.out)).trans HQ5.out
  have q3 : w6.cell? ⟨W4.heap.size, 3, none⟩ = some (.slice D ds.length dc) := cell_of_row _ _ 3 _ _ _ hq6
  have f3 : w6.frozen? ⟨W4.heap.size, 3, none⟩ = false := frozen_row hq6 3
  have HT7 := Lib.hid (hT.setP hq6 3 (.slice (some ⟨G, 0, none⟩) es.length gc))
  have HQ7 : Hid ((w6.setCell ⟨W4.heap.size, 3, none⟩ (.slice (some ⟨G, 0, none⟩) es.length gc)).heap[W4.heap.size]? = some (planO fr till A nx.length c (some ⟨G, 0, none⟩) es.length gc)) := row_set hq6 3 _
  have HB7 : Hid (Below W4.heap.size W4 (w6.setCell ⟨W4.heap.size, 3, none⟩ (.slice (some ⟨G, 0, none⟩) es.length gc))) := (bt HB5.out hb).setCell (Nat.le_refl _) _
  have HL7 := Lib.hid (HL4.out.below HB7.out)
  have HR7 := Lib.hid (HR4.out.below HB7.out)
  have HC7 := Lib.hid ((HB7.out.block _ (block_lt HC4.out)).trans HC4.out)
  clear hnum hT hq6 hb p3 HL4 HR4 HC4 HL5 HB5 HQ5
  go_upto_region 18 with fail
  clear q3 f3
  change Code.wp _ _ _ _ (w6.setCell ⟨W4.heap.size, 3, none⟩ (.slice (some ⟨G, 0, none⟩) es.length gc))
  generalize (w6.setCell ⟨W4.heap.size, 3, none⟩ (.slice (some ⟨G, 0, none⟩) es.length gc)) = W7 at *
  have HZ3 : Hid (W4.heap.size < W7.heap.size) := block_lt HQ7.out
  generalize W4.heap.size = Z2 at *
  have HFE := Lib.hid (fine_raised HV.out.fine HNE.out (show (0 : Int) ≤ 1 + (b8 : Int) by omega) (fun x hx r hr y hy => by have := HNM.out x hx r hr y hy; omega))
  have HTD := Lib.hid (HT7.out.fine HFE.out HV.out.offs)
  have he6 : es.length ≤ 1000000 := by have := HFE.out.dsL; have := HV.out.sound.1.good.few.2.2.2; omega
  obtain ⟨⟨n0, n1, n2, n3, n4, n5⟩, p0, p1, p2, p3⟩ := HL7.out.nb.cells
  have q0 : W7.cell? ⟨Z2, 0, none⟩ = some (iV fr) := cell_of_row _ _ 0 _ _ _ HQ7.out
  have q1 : W7.cell? ⟨Z2, 1, none⟩ = some (iV till) := cell_of_row _ _ 1 _ _ _ HQ7.out
  have q2 : W7.cell? ⟨Z2, 2, none⟩ = some (.slice A nx.length c) := cell_of_row _ _ 2 _ _ _ HQ7.out
  have q3 : W7.cell? ⟨Z2, 3, none⟩ = some (.slice (some ⟨G, 0, none⟩) es.length gc) := cell_of_row _ _ 3 _ _ _ HQ7.out
  go_wp2_with fail
  refine (write_any n fr till A c nx (some ⟨G, 0, none⟩) gc es _ HL7.out.nb.nin HL7.out.nb.tab hx6 HTD.out he6 HL7.out.kw).mono ?_
  rintro e w8 ⟨hb, B2, b2', rfl, hr, hb1, hb2⟩
  have HL8 := Lib.hid (HL7.out.below hb)
  have HR8 := Lib.hid (HR7.out.below hb)
  have HC8 := Lib.hid ((hb.block _ (block_lt HC7.out)).trans HC7.out)
  clear hb HL7 HR7 HC7 HT7 HTD HQ7 HB7 n0 n1 n2 n3 n4 n5 p0 p1 p2 p3 q0 q1 q2 q3 he6
  generalize hwt : writeTop n fr till nx es = wt2 at *
  have HWE := Lib.hid hwt; clear hwt
  obtain ⟨we2, wn2⟩ := wt2
  have HC9 := Lib.hid (heap_alloc_new w8 (.cells #[.slice B2 wn2.length b2', iV (sealW (we2, wn2))] 43))
  have HBC := ba w8 (.cells #[.slice B2 wn2.length b2', iV (sealW (we2, wn2))] 43)
  have HL9 := Lib.hid (HL8.out.below HBC)
  have HR9 := Lib.hid (HR8.out.below HBC)
  have HE9 := Lib.hid (hr.below HBC)
  have HCB2 := Lib.hid (And.intro hb1 hb2)
  have HD9 := Lib.hid ((HBC.block _ (block_lt HC8.out)).trans HC8.out)
  clear HBC hr HL8 HR8 HC8 hb1 hb2
  go_upto_region 19 with fail
  change Code.wp _ _ _ _ (w8.alloc (.cells #[.slice B2 wn2.length b2', iV (sealW (we2, wn2))] 43))
  generalize (w8.alloc (.cells #[.slice B2 wn2.length b2', iV (sealW (we2, wn2))] 43)) = W9 at *
  generalize w8.heap.size = Z3 at *
  obtain ⟨-, p0, p1, p2, p3⟩ := HL9.out.nb.cells
  go_wp2_with fail
  refine (header_any n fr till A c nx D dc ds _ HL9.out.nb.tab HL9.out.nb.dtab HV.out.sound.1.good HV.out.fine).mono ?_
  rintro e w10 ⟨v10, rfl, hown, hb⟩
  obtain ⟨HA, hc', hve⟩ := own_slice hown
  have hv10 : v10 = .slice HA (headR n fr till nx ds).length hc' := hve
  clear hve hown
  subst hv10
  have HLA := Lib.hid (HL9.out.below hb)
  have HRA := Lib.hid (HR9.out.below hb)
  have HEA := Lib.hid (HE9.out.below hb)
  have HCA := Lib.hid ((hb.block _ (block_lt HC9.out)).trans HC9.out)
  have HDA := Lib.hid ((hb.block _ (block_lt HD9.out)).trans HD9.out)
  clear hb HL9 HR9 HE9 HC9 HD9 p0 p1 p2 p3
  go_upto_region 20 with fail
  have s1 : (0 : Int) < (n.clss.length : Int) := by have := HPO.out.1; omega
  have s2 : (0 : Int) < (n.offs.length : Int) := by have := HPO.out.2; omega
  have k1 : (0 : Int) ≤ (k8 : Int) := by omega
  have k2 : (k8 : Int) ≤ 255 := by omega
  have k3 : (0 : Int) ≤ (o8 : Int) := by omega
  have k4 : (o8 : Int) ≤ 255 := by omega
  have k5 : (0 : Int) ≤ (d8 : Int) := by omega
  have k6 : (d8 : Int) ≤ 255 := by omega
  obtain ⟨k, ek, hkl⟩ := mod_nat (a := k8) HPO.out.1
  obtain ⟨o, eo, hol⟩ := mod_nat (a := o8) HPO.out.2
  obtain ⟨d, ed, hdl⟩ := mod_nat (a := d8) HPO.out.2
  obtain ⟨r1, r2, r3, r4⟩ := HV.out.fine.rng
  by_cases hw : we = 0
  case neg =>
    have e1 : (we == 0) = false := by rw [beq_eq_false_iff_ne]; exact hw
    have e2 : (we != 0) = true := by simpa using hw
    clear hw HRA HEA HCA HDA
    go_quiet (fail)
    have HLB := Lib.hid (HLA.out.below (below_drewN (Below.refl _ _) nq))
    clear HLA
    go_upto_region 22 with fail
    change Code.wp _ _ _ _ (w10.drewN nq)
    generalize (w10.drewN nq) = wB at *
    obtain ⟨⟨n0, n1, n2, n3, n4, n5⟩, p0, p1, p2, p3⟩ := HLB.out.nb.cells
    go_upto_region 25 with fail
    rw [ek, eo, ed]
    clear ek eo ed k1 k2 k3 k4 k5 k6 b2 b3 b4
    go_wp2_with fail
    refine (table_any n A c nx fr till _ HLB.out.nb.nin HLB.out.nb.tab HX.out HLB.out.kw HV.out.sound HV.out.fine.next r1 r2 r3 r4).mono ?_
    rintro e wC h3
    obtain ⟨g, gc2, ts, rfl, hes, hv, hb, hg⟩ := tableR_dtab h3 (fun k hk o ho d hd => by have := mostR_in n nx k o d fr till; unfold I64; omega) (by have := HV.out.offs; omega)
    have HLC := Lib.hid (HLB.out.below hb)
    have HDK := Lib.hid hv.daysOk
    have HTC := Lib.hid ((hes _ (KeepB.refl _ _)).all)
    clear hes hv hb hg h3 HLB n0 n1 n2 n3 n4 n5 p0 p1 p2 p3
    have ht6 : ts.length ≤ maxLen := by have := HDK.out.1; have := HV.out.sound.1.good.few.2.2.2; unfold maxLen; omega
    obtain ⟨⟨n0, n1, n2, n3, n4, n5⟩, p0, p1, p2, p3⟩ := HLC.out.nb.cells
    go_wp2_with fail
    refine (rdays_any n (some ⟨g, 0, none⟩) gc2 ts _ HLC.out.nb.nin HTC.out ht6).mono ?_
    rintro e wD ⟨⟨b, rfl, hbd⟩, hb⟩
    obtain rfl : b = true := hbd.2 HDK.out
    have HLD := Lib.hid (HLC.out.below hb)
    have HTD := Lib.hid (HTC.out.below hb)
    clear hb hbd HLC n0 n1 n2 n3 n4 n5 p0 p1 p2 p3
    obtain ⟨⟨n0, n1, n2, n3, n4, n5⟩, p0, p1, p2, p3⟩ := HLD.out.nb.cells
    go_wp2_with fail
    refine (rdays_any n (some ⟨g, 0, none⟩) gc2 ts _ HLD.out.nb.nin HTD.out ht6).mono ?_
    rintro e wE ⟨⟨b, rfl, hbd⟩, hb⟩
    obtain rfl : b = true := hbd.2 HDK.out
    have HLE := Lib.hid (HLD.out.below hb)
    clear hb hbd HLD n0 n1 n2 n3 n4 n5 p0 p1 p2 p3
    go_wp2_with fail
    go_ret
    exact ⟨rfl, HLE.out.nb.bel⟩
  subst hw
  obtain ⟨L, hL1, hL2, hL3⟩ := writeTop_raised HV.out.sound HV.out.fine HNE.out (show (0 : Int) ≤ 1 + (b8 : Int) by omega) (fun x hx r hr y hy => by have := HNM.out x hx r hr y hy; omega) (by rw [HWT.out])
  rw [HWT.out] at hL1
  rw [HWE.out] at hL2
  obtain ⟨-, hL1⟩ := Prod.mk.inj hL1
  obtain ⟨rfl, hL2'⟩ := Prod.mk.inj hL2
  have HW0 : Hid ((writeTop n fr till nx ds).1 = 0) := by
    show _ = _
    rw [HWT.out]
  have hh0 : 0 < (headR n fr till nx ds).length := by unfold headR; simp
  generalize headR n fr till nx ds = H at *
  generalize headR n fr till nx es = H2 at *
  have e1 : wn.length = H.length + L.length := by rw [hL1, List.length_append]
  have e2 : wn2.length = H.length + L.length := by rw [hL2', List.length_append, hL3]
  have hd1 : wn.drop H.length = L := by rw [hL1, List.drop_left]
  have hd2 : wn2.drop H.length = L := by rw [hL2', ← hL3, List.drop_left]
  obtain ⟨sb, so, hB, -, -⟩ := HRA.out.get (i := 0) (by simp; omega)
  obtain ⟨tb, to_, hB2, -, -⟩ := HEA.out.get (i := 0) (by simp; omega)
  subst hB hB2
  have hs1 := HRA.out.drop H.length
  have hs2 := HEA.out.drop H.length
  rw [← List.map_drop, hd1] at hs1
  rw [← List.map_drop, hd2] at hs2
  have hL4 : L.length ≤ 40000 := by
    have := (writeTop_bd HV.out.fine HV.out.sound.1.good HWT.out).1
    omega
  have hcap1 := HCB.out.1
  have hcap2 := HCB2.out.1
  have HII : Hid (∀ W, Below w10.heap.size w10 W → Calls Tryz.prog 17 #[.slice (if b = H.length then some ⟨sb, so, none⟩ else some ⟨sb, so + H.length, none⟩) (wn.length - H.length) (b - H.length), .slice (if b2' = H.length then some ⟨tb, to_, none⟩ else some ⟨tb, to_ + H.length, none⟩) (wn2.length - H.length) (b2' - H.length)] W fun e w' => e = .returned (.bool true) ∧ Below W.heap.size W w') := fun W hb => by
    have t1 : Rd W (if b = H.length then some ⟨sb, so, none⟩ else some ⟨sb, so + H.length, none⟩) (L.map iV) := by
      split
      · rw [List.eq_nil_of_length_eq_zero (l := L) (by omega)]
        exact Rd.nil _ _
      · exact hs1.below hb
    have t2 : Rd W (if b2' = H.length then some ⟨tb, to_, none⟩ else some ⟨tb, to_ + H.length, none⟩) (L.map iV) := by
      split
      · rw [List.eq_nil_of_length_eq_zero (l := L) (by omega)]
        exact Rd.nil _ _
      · exact hs2.below hb
    have := ints_any L L _ _ (b - H.length) (b2' - H.length) W t1 t2 (by omega)
    rw [show wn.length - H.length = L.length by omega, show wn2.length - H.length = L.length by omega]
    exact this.mono (fun e w' h => ⟨by rw [h.1]; simp, h.2⟩)
  clear hcap1 hcap2 hL4
  have c1 : w10.cell? ⟨Z1, 0, none⟩ = some (.slice (some ⟨sb, so, none⟩) wn.length b) := cell_of_row _ _ 0 _ _ _ HDA.out
  have c2 : w10.cell? ⟨Z3, 0, none⟩ = some (.slice (some ⟨tb, to_, none⟩) wn2.length b2') := cell_of_row _ _ 0 _ _ _ HCA.out
  have HSW : Hid (∀ w', Below w10.heap.size w10 w' → w'.cell? ⟨Z1, 0, none⟩ = some (.slice (some ⟨sb, so, none⟩) wn.length b) ∧ w'.cell? ⟨Z3, 0, none⟩ = some (.slice (some ⟨tb, to_, none⟩) wn2.length b2')) := fun w' hb => ⟨cell_keepW hb c1, cell_keepW hb c2⟩
  have hcap := HCB.out
  have hcap2 := HCB2.out
  unfold maxLen at hcap hcap2
  have f1 : ((wn.length : Int) != (wn2.length : Int)) = false := by rw [e1, e2]; simp
  have f2 : ¬ (wn.length : Int) < (H.length : Int) := by omega
  have f3 : (0 : Int) ≤ (H.length : Int) := by omega
  have f4 : (H.length : Int) ≤ (wn.length : Int) := by omega
  have f5 : (H.length : Int) ≤ (wn2.length : Int) := by omega
  have f6 : (wn.length : Int) ≤ (b : Int) := by omega
  have f7 : (wn2.length : Int) ≤ (b2' : Int) := by omega
  have f8 : (b : Int) ≤ 9223372036854775807 := by omega
  have f9 : (b2' : Int) ≤ 9223372036854775807 := by omega
  have HEL := Lib.hid (And.intro e1 e2)
  clear e1 e2 hh0 hcap hcap2 hL1 hL2 hL2' hL3 hd1 hd2 hs1 hs2 c1 c2
  generalize H.length = HN at *
  generalize wn.length = N1 at *
  generalize wn2.length = N2 at *
  go_region_held3 (fun w' => w'.cell? ⟨Z1, 0, none⟩ = some (.slice (some ⟨sb, so, none⟩) N1 b) ∧ w'.cell? ⟨Z3, 0, none⟩ = some (.slice (some ⟨tb, to_, none⟩) N2 b2')) (first | (with_reducible exact HSW.out _ (b_drew (Below.refl _ _))) | (with_reducible exact HSW.out _ HBB.out)) (first
    | (go_at_call 17; refine (HII.out _ (b_drew (Below.refl _ _))).mono ?_; rintro e wB ⟨rfl, hb⟩; have HBB := Lib.hid (bdr hb); clear hb; generalize (if b = HN then some (⟨sb, so, none⟩ : Addr) else some ⟨sb, so + HN, none⟩) = xA; generalize (if b2' = HN then some (⟨tb, to_, none⟩ : Addr) else some ⟨tb, to_ + HN, none⟩) = xB)
    | fail)
  have HLB := Lib.hid (HLA.out.below HBB.out)
  clear HLA HBB HSW HII HRA HEA HCA HDA
  obtain ⟨⟨n0, n1, n2, n3, n4, n5⟩, p0, p1, p2, p3⟩ := HLB.out.nb.cells
  go_upto_region 25 with fail
  rw [ek, eo, ed]
  clear ek eo ed k1 k2 k3 k4 k5 k6 b2 b3 b4
  go_wp2_with fail
  refine (table_any n A c nx fr till _ HLB.out.nb.nin HLB.out.nb.tab HX.out HLB.out.kw HV.out.sound HV.out.fine.next r1 r2 r3 r4).mono ?_
  rintro e wC h3
  obtain ⟨g, gc2, ts, rfl, hes, hv, hb, hg⟩ := tableR_dtab h3 (fun k hk o ho d hd => by have := mostR_in n nx k o d fr till; unfold I64; omega) (by have := HV.out.offs; omega)
  have HLC := Lib.hid (HLB.out.below hb)
  have HDK := Lib.hid hv.daysOk
  have HTV := Lib.hid hv
  have HTC := Lib.hid (hes _ (KeepB.refl _ _))
  clear hes hv hb hg h3 HLB n0 n1 n2 n3 n4 n5 p0 p1 p2 p3
  have ht6 : ts.length ≤ maxLen := by have := HDK.out.1; have := HV.out.sound.1.good.few.2.2.2; unfold maxLen; omega
  obtain ⟨⟨n0, n1, n2, n3, n4, n5⟩, p0, p1, p2, p3⟩ := HLC.out.nb.cells
  go_wp2_with fail
  refine (rdays_any n (some ⟨g, 0, none⟩) gc2 ts _ HLC.out.nb.nin HTC.out.all ht6).mono ?_
  rintro e wD ⟨⟨b, rfl, hbd⟩, hb⟩
  obtain rfl : b = true := hbd.2 HDK.out
  have HLD := Lib.hid (HLC.out.below hb)
  have HTD := Lib.hid (HTC.out.below hb)
  clear hb hbd HLC HTC n0 n1 n2 n3 n4 n5 p0 p1 p2 p3
  obtain ⟨⟨n0, n1, n2, n3, n4, n5⟩, p0, p1, p2, p3⟩ := HLD.out.nb.cells
  obtain ⟨y, hy⟩ := DsAt.of HV.out.fine.dsL (fun x hx => (HV.out.fine.days x hx).1) hkl hol hdl
  obtain ⟨mv, hmv⟩ := DsAt.of HDK.out.1 (fun x hx => HDK.out.2 x hx) hkl hol hdl
  have HDS := Lib.hid hy
  have HMR : Hid (mv = mostR n nx k o d fr till) := by
    obtain ⟨z, r, z1, z2, z3⟩ := hmv
    exact ((HTV.out.2 k z z1).2 o r z2).2 d mv z3
  have HMI : Hid (-1 ≤ mv ∧ mv ≤ 2000) := by
    show _ ∧ _
    rw [HMR.out]
    exact mostR_in n nx k o d fr till
  have HDA : Hid (DayAt wD (.slice D ds.length dc) k o d y) := by
    obtain ⟨z, r, z1, z2, z3⟩ := hy
    have l1 := HV.out.dsl
    have l2 := HV.out.rows z (List.mem_of_getElem? z1)
    have l3 := (HV.out.fine.days z (List.mem_of_getElem? z1)).1.2 r (List.mem_of_getElem? z2)
    have l4 := HV.out.offs
    exact dayAt_of (HLD.out.nb.dtab.few (fun x hx => by have := HV.out.rows x hx; omega)) (by omega) z1 z2 z3 (by omega) (by omega)
  have HTA : Hid (DayAt wD (.slice (some ⟨g, 0, none⟩) ts.length gc2) k o d mv) := by
    obtain ⟨z, r, z1, z2, z3⟩ := hmv
    have l1 := HDK.out.1
    have l2 := (HDK.out.2 z (List.mem_of_getElem? z1)).1
    have l3 := (HDK.out.2 z (List.mem_of_getElem? z1)).2 r (List.mem_of_getElem? z2)
    have l4 := HV.out.offs
    have l5 := HV.out.sound.1.good.few.2.2.2
    exact dayAt_of HTD.out (by omega) z1 z2 z3 (by omega) (by omega)
  clear hy hmv
  obtain ⟨D1, D2, dl, dc', E1, E2, el, ec, F1, F2, fl, fc, hdv, l1, l2, l3, l4, l5, l6, g1, g2, g3, t1, t2, t3⟩ := HDA.out
  have HDV := Lib.hid hdv
  rw [hdv] at p3
  clear hdv
  obtain ⟨V1, V2, vl, vc', X1, X2, xl, xc, Y1, Y2, yl, yc, hdv, m1, m2, m3, m4, m5, m6, h1, h2, h3, u1, u2, u3⟩ := HTA.out
  injection hdv with hdv1 hdv2 hdv3
  injection hdv1 with hdv1
  injection hdv1 with hdv4 hdv5
  subst hdv4 hdv5 hdv2 hdv3
  rw [Nat.zero_add] at u1
  have q1 : (0 : Int) ≤ (k : Int) := by omega
  have q2 : (k : Int) < (dl : Int) := by omega
  have q3 : (0 : Int) ≤ (o : Int) := by omega
  have q4 : (o : Int) < (el : Int) := by omega
  have q5 : (0 : Int) ≤ (d : Int) := by omega
  have q6 : (d : Int) < (fl : Int) := by omega
  have q7 : (k : Int) < (ts.length : Int) := by omega
  have q8 : (o : Int) < (xl : Int) := by omega
  have q9 : (d : Int) < (yl : Int) := by omega
  clear g1 g2 g3 h1 h2 h3
  by_cases hy0 : y < 0
  case pos =>
    go_wp2_with fail
    refine (rdays_any n (some ⟨g, 0, none⟩) gc2 ts _ HLD.out.nb.nin HTD.out.all ht6).mono ?_
    rintro e wE ⟨⟨b, rfl, hbd⟩, hb⟩
    obtain rfl : b = true := hbd.2 HDK.out
    have HLE := Lib.hid (HLD.out.below hb)
    clear hb hbd HLD n0 n1 n2 n3 n4 n5 p0 p1 p2 p3
    go_wp2_with fail
    go_ret
    exact ⟨rfl, HLE.out.nb.bel⟩
  have HY0 : Hid (0 ≤ y) := by show _ ≤ _; omega
  by_cases hm0 : mv ≤ 0
  case pos =>
    go_wp2_with fail
    refine (rdays_any n (some ⟨g, 0, none⟩) gc2 ts _ HLD.out.nb.nin HTD.out.all ht6).mono ?_
    rintro e wE ⟨⟨b, rfl, hbd⟩, hb⟩
    obtain rfl : b = true := hbd.2 HDK.out
    have HLE := Lib.hid (HLD.out.below hb)
    clear hb hbd HLD n0 n1 n2 n3 n4 n5 p0 p1 p2 p3
    go_wp2_with fail
    go_ret
    exact ⟨rfl, HLE.out.nb.bel⟩
  have HM0 : Hid (0 < mv) := by show _ < _; omega
  go_upto_region 28 with fail
  rw [← HDV.out] at p3
  clear t1 t2 t3 n0 n1 n2 n3 n4 n5 hy0 hm0
  have HU := Lib.hid (And.intro u1 (And.intro u2 u3))
  have HB5 := Lib.hid (ba wD (planO fr till A nx.length c D ds.length dc))
  have HQ5 := Lib.hid (heap_alloc_new wD (planO fr till A nx.length c D ds.length dc))
  have HL5 := Lib.hid (HLD.out.below HB5.out)
  go_upto_region 29 with fail
  change Code.wp _ _ _ _ (wD.alloc (planO fr till A nx.length c D ds.length dc))
  generalize (wD.alloc (planO fr till A nx.length c D ds.length dc)) = W5 at *
  clear p0 p1 p2 p3 u1 u2 u3
  obtain ⟨-, -, -, -, p3⟩ := HL5.out.nb.cells
  go_wp2_with fail
  refine (raised_fine HV.out.fine HV.out.sound.1.good HPO.out.1 HPO.out.2 HV.out.offs D dc 0 _ HL5.out.nb.dtab (by omega) (by omega)).mono ?_
  rintro e w6 ⟨G, gc, fs, rfl, hT, hnum, hb⟩
  have HNE := Lib.hid hnum
  have hq6 : w6.heap[wD.heap.size]? = some (planO fr till A nx.length c D ds.length dc) := (hb.block _ (block_lt HQ5.out)).trans HQ5.out
  have q3' : w6.cell? ⟨wD.heap.size, 3, none⟩ = some (.slice D ds.length dc) := cell_of_row _ _ 3 _ _ _ hq6
  have f3 : w6.frozen? ⟨wD.heap.size, 3, none⟩ = false := frozen_row hq6 3
  have HT7 := Lib.hid (hT.setP hq6 3 (.slice (some ⟨G, 0, none⟩) fs.length gc))
  have HQ7 : Hid ((w6.setCell ⟨wD.heap.size, 3, none⟩ (.slice (some ⟨G, 0, none⟩) fs.length gc)).heap[wD.heap.size]? = some (planO fr till A nx.length c (some ⟨G, 0, none⟩) fs.length gc)) := row_set hq6 3 _
  have HB7 : Hid (Below wD.heap.size wD (w6.setCell ⟨wD.heap.size, 3, none⟩ (.slice (some ⟨G, 0, none⟩) fs.length gc))) := (bt HB5.out hb).setCell (Nat.le_refl _) _
  have HL7 := Lib.hid (HLD.out.below HB7.out)
  have HU7 := Lib.hid (And.intro (cell_keepW HB7.out HU.out.1) (And.intro (cell_keepW HB7.out HU.out.2.1) (cell_keepW HB7.out HU.out.2.2)))
  have HBZ : Hid (wD.heap.size < W5.heap.size) := block_lt HQ5.out
  have HLG : Hid (∀ W, Below wD.heap.size wD W → Lw w W n fr till A c nx D dc ds m) := fun W hb => HLD.out.below hb
  clear hnum hT hq6 hb p3 HLD HTD HDA HTA HL5 HB5 HQ5 HU
  go_upto_region 30 with fail
  clear q3' f3
  change Code.wp _ _ _ _ (w6.setCell ⟨wD.heap.size, 3, none⟩ (.slice (some ⟨G, 0, none⟩) fs.length gc))
  generalize (w6.setCell ⟨wD.heap.size, 3, none⟩ (.slice (some ⟨G, 0, none⟩) fs.length gc)) = W7 at *
  generalize wD.heap.size = Z4 at *
  have HFE := Lib.hid (fine_raised HV.out.fine HNE.out (show (0 : Int) ≤ 0 by omega) (fun x hx r hr y hy => by have := HNM.out x hx r hr y hy; omega))
  obtain ⟨y9, x9, r9, z1, z2, z3⟩ := DsAt.of HFE.out.dsL (fun x hx => (HFE.out.days x hx).1) hkl hol hdl
  have HZ := Lib.hid (And.intro z1 (And.intro z2 z3))
  have HTD := Lib.hid (HT7.out.fine HFE.out HV.out.offs)
  obtain ⟨⟨gx, cx, ex, -, -, hgx⟩, hrows⟩ := HT7.out.day x9 (List.mem_of_getElem? z1)
  obtain ⟨gr, cr, er, hgr0, hgr1, hgr⟩ := hrows r9 (List.mem_of_getElem? z2)
  have HER := Lib.hid er
  have HGR := Lib.hid hgr0
  have v0 : W7.cell? ⟨Z4, 3, none⟩ = some (.slice (some ⟨G, 0, none⟩) fs.length gc) := cell_of_row _ _ 3 _ _ _ HQ7.out
  have v1 : W7.cell? ⟨G, k, none⟩ = some (.slice (some ⟨gx, 0, none⟩) x9.rows.length x9.c) := by
    obtain ⟨b9, o9, e9, -, hc9⟩ := HT7.out.rd.get (i := k) (by simpa using (List.getElem?_eq_some_iff.1 z1).1)
    cases e9
    have := hc9 k (slD x9) (by rw [List.getElem?_map, z1]; rfl)
    rw [Nat.zero_add, slD, ex] at this
    exact this
  have v2 : W7.cell? ⟨gx, o, none⟩ = some (.slice (some ⟨gr, 0, none⟩) r9.ns.length r9.c) := by
    obtain ⟨b9, o9, e9, -, hc9⟩ := hgx.get (i := o) (by simpa using (List.getElem?_eq_some_iff.1 z2).1)
    cases e9
    have := hc9 o (slI r9) (by rw [List.getElem?_map, z2]; rfl)
    rw [Nat.zero_add, slI, er] at this
    exact this
  have v3 : W7.cell? ⟨gr, d, none⟩ = some (iV y9) := by
    obtain ⟨b9, o9, e9, -, hc9⟩ := hgr.get (i := d) (by simpa using (List.getElem?_eq_some_iff.1 z3).1)
    cases e9
    have := hc9 d (iV y9) (by rw [List.getElem?_map, z3]; rfl)
    rw [Nat.zero_add] at this
    exact this
  have fz : W7.frozen? ⟨gr, d, none⟩ = false := frozen_row hgr1 d
  obtain ⟨u1, u2, u3⟩ := HU7.out
  have q2' : (k : Int) < (fs.length : Int) := by have := (List.getElem?_eq_some_iff.1 z1).1; omega
  have q4' : (o : Int) < (x9.rows.length : Int) := by have := (List.getElem?_eq_some_iff.1 z2).1; omega
  have q6' : (d : Int) < (r9.ns.length : Int) := by have := (List.getElem?_eq_some_iff.1 z3).1; omega
  have hm1 : (0 : Int) < mv := HM0.out
  have hm2 : mv ≤ 2000 := HMI.out.2
  have hvs : ∀ x ∈ fs, x.rows.length ≤ 1000000 ∧ ∀ r ∈ x.rows, (∀ y ∈ r.ns, I64 y) ∧ r.ns.length ≤ maxLen := fun x hx => ⟨by have := (HFE.out.days x hx).1.1; have := HV.out.offs; omega, fun r hr => ⟨fun y hy => by have := (HFE.out.days x hx).2 r hr y hy; unfold I64; omega, by have := (HFE.out.days x hx).1.2 r hr; have := HV.out.offs; unfold maxLen; omega⟩⟩
  have HTS := Lib.hid (HT7.out.set (v := mv - 1) z1 z2 z3 er hvs (by unfold I64; omega))
  have HFS := Lib.hid (fine_setN (d := d) HFE.out z1 z2 (show -1 ≤ mv - 1 ∧ mv - 1 ≤ 65518 by omega))
  have HST := Lib.hid (setN_set (v := mv - 1) z1 z2 z3)
  have HBS : Hid (Below Z4 wD ((W7.setCell ⟨gr, d, none⟩ (iV (mv - 1))).drew)) := b_drew (HB7.out.setCell (Nat.le_trans (Nat.le_of_lt HBZ.out) hgr0) _)
  have HTE : Hid (DTab ((W7.setCell ⟨gr, d, none⟩ (iV (mv - 1))).drew) (some ⟨G, 0, none⟩) (setN fs k o d (mv - 1) x9 r9)) := HTS.out.below (b_drew (Below.refl _ _))
  have HQE : Hid (((W7.setCell ⟨gr, d, none⟩ (iV (mv - 1))).drew).heap[Z4]? = some (planO fr till A nx.length c (some ⟨G, 0, none⟩) fs.length gc)) := row_other HQ7.out (by have := HBZ.out; omega) _ _
  have HWL : Hid (writeTop n fr till nx (setN fs k o d (mv - 1) x9 r9) = (190, [])) := by
    have h1 := HST.out
    have h2 := HFS.out
    have h3 := HMR.out
    have h4 := HM0.out
    rw [h3] at h1 h2 h4 ⊢
    exact writeTop_less HV.out.sound HV.out.fine HNE.out HW0.out HDS.out HY0.out h4 h1 h2
  clear z1 z2 z3 ex er hgx hrows hgr0 hgr1 hgr hvs HTS HTD HT7 HQ7 HL7 HU7 HB7
  go_still_tail 21, (by kernel_rfl)
  go_upto_region 31 with fail
  clear u1 u2 u3 v0 v1 v2 v3 fz q2' q4' q6' hm1 hm2
  have hfl : fs.length = (setN fs k o d (mv - 1) x9 r9).length := by unfold setN; rw [List.length_set]
  rw [hfl] at HQE
  clear hfl
  change Code.wp _ _ _ _ ((W7.setCell ⟨gr, d, none⟩ (iV (mv - 1))).drew)
  generalize ((W7.setCell ⟨gr, d, none⟩ (iV (mv - 1))).drew) = W8 at *
  generalize setN fs k o d (mv - 1) x9 r9 = us at *
  have HL8 := Lib.hid (HLG.out _ HBS.out)
  obtain ⟨⟨n0, n1, n2, n3, n4, n5⟩, p0, p1, p2, p3⟩ := HL8.out.nb.cells
  have y0' : W8.cell? ⟨Z4, 0, none⟩ = some (iV fr) := cell_of_row _ _ 0 _ _ _ HQE.out
  have y1' : W8.cell? ⟨Z4, 1, none⟩ = some (iV till) := cell_of_row _ _ 1 _ _ _ HQE.out
  have y2' : W8.cell? ⟨Z4, 2, none⟩ = some (.slice A nx.length c) := cell_of_row _ _ 2 _ _ _ HQE.out
  have y3' : W8.cell? ⟨Z4, 3, none⟩ = some (.slice (some ⟨G, 0, none⟩) us.length gc) := cell_of_row _ _ 3 _ _ _ HQE.out
  have hu6 : us.length ≤ 1000000 := by have := HFS.out.dsL; have := HV.out.sound.1.good.few.2.2.2; omega
  go_wp2_with fail
  refine (write_any n fr till A c nx (some ⟨G, 0, none⟩) gc us _ HL8.out.nb.nin HL8.out.nb.tab hx6 HTE.out hu6 HL8.out.kw).mono ?_
  rintro e w9 ⟨hb, B9, b9, rfl, -, -, -⟩
  rw [HWL.out]
  have HL9 := Lib.hid (HL8.out.below hb)
  have HBZ9 := Lib.hid (bt HL9.out.nb.bel (ba w9 (.cells #[.slice B9 ([] : List Int).length b9, iV (sealW (190, []))] 43)))
  clear hb HL8 n0 n1 n2 n3 n4 n5 p0 p1 p2 p3 y0' y1' y2' y3'
  go_wp2_with fail
  go_ret
  exact ⟨rfl, HBZ9.out⟩
end Go.Proofs.YtjpabeoflhkfkaaGreatDoor
