/-
  The walks over the reference's Valid, the law's fine, and the reference's Header.
-/
import Derived.Test.YtjpabeoflhkfkaaGreatDoorWarRef
namespace Go.Proofs.YtjpabeoflhkfkaaGreatDoor
open Go.RowKit

theorem fine_of {n : Net} {fr till : Int} {nx : List NsC} {ds : List DaC} (h1 : 0 ≤ fr) (h2 : fr < till) (h3 : till ≤ fr + 60) (h4 : till ≤ 600) (hf : Formed n nx) (hd : DaysOk n ds) (hi : DaysIn ds) : Fine n fr till nx ds := by
  refine ⟨⟨h1, h2, h4, by omega⟩, hf, fun r hr => ?_, hd.1, fun x hx => ⟨hd.2 x hx, hi x hx⟩⟩
  obtain ⟨o, ho⟩ := mem_get hr
  obtain ⟨r', e1, e2, e3⟩ := hf.2 o (by rw [← hf.1]; exact (List.getElem?_eq_some_iff.1 ho).1)
  rw [ho] at e1
  cases e1
  exact ⟨e2, fun x hx => by have := e3 x hx; omega⟩
def ValP (n : Net) (fr till : Int) (nx : List NsC) (ds : List DaC) : Prop := Sound n ∧ Fine n fr till nx ds
set_option maxHeartbeats 8000000 in
set_option maxRecDepth 100000 in
theorem valid8_any (n : Net) (fr till : Int) (A : Option Addr) (c : Nat) (nx : List NsC) (D : Option Addr) (dc : Nat) (ds : List DaC) (w : World) (hn : NetIn w n) (hf : FewN n) (hT : Tab w A nx) (hx : nx.length ≤ maxLen) (hD : DTab0 w D ds) (hd : ds.length ≤ maxLen) :
    Calls Tryz.prog 30 #[netV n, planV fr till A nx.length c D ds.length dc] w fun e w' => BoolR (fun b => b = true → ValP n fr till nx ds) e ∧ Below w.heap.size w w' := by
  have HNB := Lib.hid (Nb.new w fr till c dc hn hT hD)
  have HX := Lib.hid hx
  have HY := Lib.hid hd
  have HF := Lib.hid hf
  clear hn hT hx hD hd hf
  go_enter Tryz.func30, Tryz.ntmps30
  go_upto_region 1 with fail
  change Code.wp _ _ _ _ ((w.alloc (netO n)).alloc (planO fr till A nx.length c D ds.length dc))
  generalize ((w.alloc (netO n)).alloc (planO fr till A nx.length c D ds.length dc)) = W at *
  obtain ⟨⟨n0, n1, n2, n3, n4, n5⟩, p0, p1, p2, p3⟩ := HNB.out.cells
  go_wp2_with fail
  refine (rsound_any n _ HNB.out.nin HF.out).mono ?_
  rintro e w1 ⟨⟨b, rfl, hbd⟩, hb⟩
  have HN1 := Lib.hid (HNB.out.below hb)
  have HS := Lib.hid hbd
  clear hb hbd HNB n0 n1 n2 n3 n4 n5 p0 p1 p2 p3
  cases b
  case false =>
    go_wp2_with fail
    go_ret
    exact ⟨⟨false, rfl, fun h => by cases h⟩, HN1.out.bel⟩
  obtain ⟨⟨n0, n1, n2, n3, n4, n5⟩, p0, p1, p2, p3⟩ := HN1.out.cells
  by_cases h1 : 0 ≤ fr
  case neg =>
    go_wp2_with fail
    go_ret
    exact ⟨⟨false, rfl, fun h => by cases h⟩, HN1.out.bel⟩
  by_cases h2 : fr < till
  case neg =>
    go_wp2_with fail
    go_ret
    exact ⟨⟨false, rfl, fun h => by cases h⟩, HN1.out.bel⟩
  by_cases h4 : till ≤ 600
  case neg =>
    go_wp2_with fail
    all_goals
      go_ret
      exact ⟨⟨false, rfl, fun h => by cases h⟩, HN1.out.bel⟩
  by_cases h3 : till ≤ fr + 60
  case neg =>
    go_wp2_with fail
    go_ret
    exact ⟨⟨false, rfl, fun h => by cases h⟩, HN1.out.bel⟩
  have HR : Hid (0 ≤ fr ∧ fr < till ∧ till ≤ fr + 60 ∧ till ≤ 600) := ⟨h1, h2, h3, h4⟩
  go_wp2_with fail
  refine (lines_any n A c nx _ HN1.out.nin HN1.out.tab HX.out).mono ?_
  rintro e w2 ⟨rfl, hb⟩
  have HN2 := Lib.hid (HN1.out.below hb)
  clear hb n0 n1 n2 n3 n4 n5 p0 p1 p2 p3 HN1
  cases hfb : formB n nx
  case false =>
    clear hfb
    go_wp2_with fail
    go_ret
    exact ⟨⟨false, rfl, fun h => by cases h⟩, HN2.out.bel⟩
  have HFO := Lib.hid (formB_true.1 hfb)
  clear hfb
  obtain ⟨⟨n0, n1, n2, n3, n4, n5⟩, p0, p1, p2, p3⟩ := HN2.out.cells
  go_wp2_with fail
  refine (rdays8_any n D dc ds _ HN2.out.nin HN2.out.dtab HY.out).mono ?_
  rintro e w3 ⟨⟨b, rfl, hbd⟩, hb⟩
  have HB3 := Lib.hid (HN2.out.bel.trans (hb.mono HN2.out.bel.size))
  have HV : Hid (b = true → ValP n fr till nx ds) := fun e => ⟨HS.out trivial, fine_of HR.out.1 HR.out.2.1 HR.out.2.2.1 HR.out.2.2.2 HFO.out (hbd e).1 (hbd e).2⟩
  clear hb hbd n0 n1 n2 n3 n4 n5 p0 p1 p2 p3 HN2
  go_wp2_with fail
  go_ret
  exact ⟨⟨_, rfl, HV.out⟩, HB3.out⟩
/-- What the law asks of its network and its plan. -/
structure FinP (n : Net) (fr till : Int) (nx : List NsC) (ds : List DaC) : Prop where
  sound : Sound n
  fine : Fine n fr till nx ds
  few : FewN n
  offs : n.offs.length ≤ 6
  short : till ≤ fr + 12
  rows : ∀ x ∈ ds, x.rows.length ≤ 10
  dsl : ds.length ≤ 5
set_option maxHeartbeats 8000000 in
set_option maxRecDepth 100000 in
theorem fine8_any (n : Net) (fr till : Int) (A : Option Addr) (c : Nat) (nx : List NsC) (D : Option Addr) (dc : Nat) (ds : List DaC) (w : World) (hn : NetIn w n) (hT : Tab w A nx) (hx : nx.length ≤ maxLen) (hD : DTab0 w D ds) (hd : ds.length ≤ maxLen) :
    Calls Tryz.prog 11 #[netV n, planV fr till A nx.length c D ds.length dc] w fun e w' => BoolR (fun b => b = true → FinP n fr till nx ds) e ∧ Below w.heap.size w w' := by
  have HNB := Lib.hid (Nb.new w fr till c dc hn hT hD)
  have HX := Lib.hid hx
  have HY := Lib.hid hd
  clear hn hT hx hD hd
  go_enter Tryz.func11, Tryz.ntmps11
  go_upto_region 1 with fail
  change Code.wp _ _ _ _ ((w.alloc (netO n)).alloc (planO fr till A nx.length c D ds.length dc))
  generalize ((w.alloc (netO n)).alloc (planO fr till A nx.length c D ds.length dc)) = W at *
  obtain ⟨⟨n0, n1, n2, n3, n4, n5⟩, p0, p1, p2, p3⟩ := HNB.out.cells
  go_wp2_with fail
  refine (small8_any n fr till A c nx D dc ds _ HNB.out.nin HNB.out.tab HX.out HNB.out.dtab HY.out).mono ?_
  rintro e w1 ⟨⟨b, rfl, hbd⟩, hb⟩
  have HN1 := Lib.hid (HNB.out.below hb)
  have HS0 := Lib.hid hbd
  clear hb hbd HNB n0 n1 n2 n3 n4 n5 p0 p1 p2 p3
  cases b
  case false =>
    go_wp2_with fail
    go_ret
    exact ⟨⟨false, rfl, fun h => by cases h⟩, HN1.out.bel⟩
  have HS := Lib.hid (HS0.out rfl)
  clear HS0
  obtain ⟨⟨n0, n1, n2, n3, n4, n5⟩, p0, p1, p2, p3⟩ := HN1.out.cells
  go_wp2_with fail
  refine (valid8_any n fr till A c nx D dc ds _ HN1.out.nin HS.out.1.1 HN1.out.tab HX.out HN1.out.dtab HY.out).mono ?_
  rintro e w2 ⟨⟨b, rfl, hbd⟩, hb⟩
  have HN2 := Lib.hid (HN1.out.below hb)
  have HV0 := Lib.hid hbd
  clear hb hbd HN1 n0 n1 n2 n3 n4 n5 p0 p1 p2 p3
  cases b
  case false =>
    go_wp2_with fail
    go_ret
    exact ⟨⟨false, rfl, fun h => by cases h⟩, HN2.out.bel⟩
  have HV := Lib.hid (HV0.out rfl)
  clear HV0
  obtain ⟨-, p0, p1, p2, p3⟩ := HN2.out.cells
  obtain ⟨r1, r2, r3, r4⟩ := HV.out.2.rng
  by_cases h12 : till ≤ fr + 12
  case neg =>
    go_wp2_with fail
    go_ret
    exact ⟨⟨_, rfl, fun h => by have := of_decide_eq_true h; omega⟩, HN2.out.bel⟩
  have HFI : Hid (FinP n fr till nx ds) := ⟨HV.out.1, HV.out.2, HS.out.1.1, HS.out.1.2, h12, HS.out.2.2.2, HS.out.2.2.1⟩
  go_wp2_with fail
  go_ret
  exact ⟨⟨_, rfl, fun _ => HFI.out⟩, HN2.out.bel⟩
end Go.Proofs.YtjpabeoflhkfkaaGreatDoor
