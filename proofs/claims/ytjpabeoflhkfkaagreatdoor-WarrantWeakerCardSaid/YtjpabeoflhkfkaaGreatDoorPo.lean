/-
  The walk over warrant.Write. Blocks laid one behind the other; the tables of the examples.
-/
import Derived.Test.YtjpabeoflhkfkaaGreatDoorPn
namespace Go.Proofs.YtjpabeoflhkfkaaGreatDoor
open Go.RowKit
attribute [local go_sem] Oper.semAt_some

theorem WrW.np {w W : World} {n : Net} {fr till : Int} {A : Option Addr} {len c : Nat} {D : Option Addr} {dl dc : Nat} {s0 s1 y : Value} (h : WrW w W n fr till A len c D dl dc s0 s1 y) (hn : NetIn w n) : NetP W w.heap.size n :=
  ⟨fun _ _ hv => (cell_of_row _ _ _ _ _ _ h.net).trans hv, hn.below h.bel⟩
theorem NetP.six {w : World} {N : Nat} {n : Net} (h : NetP w N n) : w.cell? ⟨N, 0, none⟩ = some (.slice n.calA n.cals.length n.calC) ∧ w.cell? ⟨N, 1, none⟩ = some (.slice n.namA n.names.length n.namC) ∧ w.cell? ⟨N, 2, none⟩ = some (.slice n.opA n.ops.length n.opC) ∧ w.cell? ⟨N, 3, none⟩ = some (.slice n.offA n.offs.length n.offC) ∧ w.cell? ⟨N, 4, none⟩ = some (.slice n.linA n.lins.length n.linC) ∧ w.cell? ⟨N, 5, none⟩ = some (.slice n.clsA n.clss.length n.clsC) :=
  ⟨h.box 0 _ rfl, h.box 1 _ rfl, h.box 2 _ rfl, h.box 3 _ rfl, h.box 4 _ rfl, h.box 5 _ rfl⟩
theorem own_ge {base : Nat} {W : World} {v : Value} {k : Nat} {xs : List Value} {e : TypeId} {s : Nat} (h : W.ownsRow base e s v k xs) {g : Nat} (hg : v.ownBlock = some g) : base ≤ g := by
  rcases h.2 with ⟨rfl, -⟩ | ⟨g', cap, cur, rfl, h1, -⟩
  · cases hg
  · cases hg
    exact h1
theorem rd_lt {w : World} {A : Option Addr} {xs : List Value} (h : Rd w A xs) (hx : 0 < xs.length) : ∀ a, A = some a → a.block < w.heap.size := by
  intro a ha
  obtain ⟨b, o, rfl, hb, -⟩ := h.get (i := 0) hx
  cases ha
  exact hb
theorem own_slice {base : Nat} {W : World} {v : Value} {k : Nat} {xs : List Value} {e : TypeId} {s : Nat} (h : W.ownsRow base e s v k xs) : ∃ A c, v = .slice A k c := by
  rcases h.2 with ⟨hv, h0⟩ | ⟨g', cap, cur, hv, -⟩
  · exact ⟨none, 0, by rw [hv, h0]⟩
  · exact ⟨_, _, hv⟩
/-- The writer in a world, with its numbers. -/
def WrI (w2 : World) (n : Net) (fr till : Int) (nv dv : Value) (xs : List Int) (W : World) : Prop := ∃ v, WrS w2.heap.size W w2.heap.size n fr till nv dv v xs ∧ Below w2.heap.size w2 W
theorem wri_raise (w2 : World) (n : Net) (fr till : Int) (nv dv : Value) (xs ys : List Int) (A : Option Addr) (c : Nat) (W : World) (h : WrI w2 n fr till nv dv xs W) (hr : Rd w2 A (ys.map iV)) (h0 : 0 < ys.length) (hl : xs.length ≤ 1000000) (hl2 : ys.length ≤ 1000) (hy : ∀ y ∈ ys, -1000000 ≤ y ∧ y ≤ 1000000) :
    Calls Tryz.prog 36 #[.pointer (some ⟨w2.heap.size, 0, none⟩), iV 1, .slice A ys.length c] W fun e W' => e = .returned (.tuple #[]) ∧ WrI w2 n fr till nv dv (xs ++ ys.map (· + 1)) W' := by
  obtain ⟨v, h1, h2⟩ := h
  have hlt := rd_lt hr (by simpa using h0)
  refine (raised_any w2.heap.size w2.heap.size n fr till 1 nv dv v xs ys A c W h1 (Nat.le_refl _) (by omega) (hr.below h2) (fun a ha => ⟨by have := hlt a ha; omega, fun e => by have := own_ge h1.own e; have := hlt a ha; omega⟩) (by omega) (fun y hy' => by have := hy y hy'; omega)).mono ?_
  rintro e W' ⟨rfl, v', h3, -, h4⟩
  exact ⟨rfl, v', h3, h2.trans h4⟩
/-- A place of a table of promises, in the world that has the table. -/
theorem dayAt_of {w : World} {D : Option Addr} {dc : Nat} {ds : List DaC} (h : DTab w D ds) (hd : ds.length ≤ 1000) {k o d : Nat} {x : DaC} {r : NsC} {pr : Int} (h1 : ds[k]? = some x) (h2 : x.rows[o]? = some r) (h3 : r.ns[d]? = some pr) (hl1 : x.rows.length ≤ 1000) (hl2 : r.ns.length ≤ 1000) : DayAt w (.slice D ds.length dc) k o d pr := by
  have k1 := (List.getElem?_eq_some_iff.1 h1).1
  have k2 := (List.getElem?_eq_some_iff.1 h2).1
  have k3 := (List.getElem?_eq_some_iff.1 h3).1
  obtain ⟨D1, D2, hD, hD1, hDc⟩ := h.rd.get (i := k) (by simpa using k1)
  obtain ⟨hx, -⟩ := h.row x (List.mem_of_getElem? h1)
  obtain ⟨E1, E2, hE, hE1, hEc⟩ := hx.rd.get (i := o) (by simpa using k2)
  obtain ⟨hr, -⟩ := hx.row r (List.mem_of_getElem? h2)
  obtain ⟨F1, F2, hF, hF1, hFc⟩ := hr.get (i := d) (by simpa using k3)
  refine ⟨D1, D2, ds.length, dc, E1, E2, x.rows.length, x.c, F1, F2, r.ns.length, r.c, by rw [hD], k1, k2, k3, hd, hl1, hl2, hD1, hE1, hF1, ?_, ?_, ?_⟩
  · have := hDc k (slD x) (by rw [List.getElem?_map, h1]; rfl)
    rw [this, slD, hE]
  · have := hEc o (slI r) (by rw [List.getElem?_map, h2]; rfl)
    rw [this, slI, hF]
  · exact hFc d (iV pr) (by rw [List.getElem?_map, h3]; rfl)
/-- What the walk over the promises has in hand. -/
structure WrC (w2 : World) (n : Net) (fr till : Int) (A : Option Addr) (nx : List NsC) (D : Option Addr) (ds : List DaC) : Prop where
  net : NetIn w2 n
  tab : Tab w2 A nx
  dtab : DTab w2 D ds
  good : Good n
  fine : Fine n fr till nx ds
theorem wri_keep (w2 : World) (n : Net) (fr till : Int) (A : Option Addr) (c : Nat) (nx : List NsC) (D : Option Addr) (dc : Nat) (ds : List DaC) (xs : List Int) (p : Pr) (W : World) (hc : WrC w2 n fr till A nx D ds) (h : WrI w2 n fr till (.slice A nx.length c) (.slice D ds.length dc) xs W) (hp : p ∈ tabP 0 ds) (hl : xs.length ≤ 800000000) :
    Calls Tryz.prog 37 #[.pointer (some ⟨w2.heap.size, 0, none⟩), iV p.k, iV p.o, iV p.d] W fun e W' =>
      ((keepR n nx fr till p.k p.o p.d p.pr).1 = 0 ∧ e = .returned (.tuple #[]) ∧ WrI w2 n fr till (.slice A nx.length c) (.slice D ds.length dc) (xs ++ (keepR n nx fr till p.k p.o p.d p.pr).2) W') ∨ ((keepR n nx fr till p.k p.o p.d p.pr).1 ≠ 0 ∧ e = FailE (keepR n nx fr till p.k p.o p.d p.pr).1 ∧ Below w2.heap.size w2 W') := by
  obtain ⟨v, h1, h2⟩ := h
  obtain ⟨a, b, d⟩ := hc.fine.place hp
  obtain ⟨-, x, r, g1, g2, g3⟩ := tabP_mem 0 ds hp
  have hs := (hc.fine.days x (List.mem_of_getElem? g1)).1
  have hr := hs.2 r (List.mem_of_getElem? g2)
  have hf := hc.good.few
  have hdl := hc.fine.dsL
  have hsl := hs.1
  have hg := hc.fine.rng
  refine (keep_any w2 w2.heap.size n fr till A c nx (.slice D ds.length dc) v xs p.k p.o p.d p.pr W hc.net hc.tab (dayAt_of hc.dtab (by omega) g1 g2 g3 (by omega) (by omega)) ⟨h2.size, fun b hb => h2.block b hb⟩ hc.good hc.fine.next h1 (Nat.le_refl _) a b d (by omega) (by omega) hl).mono ?_
  rintro e W' (⟨e0, e1, v', e2, -, e3⟩ | ⟨e0, e1, v', -, e3⟩)
  · exact .inl ⟨e0, e1, v', e2, h2.trans e3⟩
  · exact .inr ⟨e0, e1, h2.trans e3⟩
theorem wri_keep_yes (w2 : World) (n : Net) (fr till : Int) (A : Option Addr) (c : Nat) (nx : List NsC) (D : Option Addr) (dc : Nat) (ds : List DaC) (xs : List Int) (p : Pr) (W : World) (hc : WrC w2 n fr till A nx D ds) (h : WrI w2 n fr till (.slice A nx.length c) (.slice D ds.length dc) xs W) (hp : p ∈ tabP 0 ds) (hl : xs.length ≤ 800000000) (h0 : (keepR n nx fr till p.k p.o p.d p.pr).1 = 0) :
    Calls Tryz.prog 37 #[.pointer (some ⟨w2.heap.size, 0, none⟩), iV p.k, iV p.o, iV p.d] W fun e W' => e = .returned (.tuple #[]) ∧ WrI w2 n fr till (.slice A nx.length c) (.slice D ds.length dc) (xs ++ (keepR n nx fr till p.k p.o p.d p.pr).2) W' := by
  refine (wri_keep w2 n fr till A c nx D dc ds xs p W hc h hp hl).mono ?_
  rintro e W' (⟨-, e1, e2⟩ | ⟨e0, -⟩)
  · exact ⟨e1, e2⟩
  · exact absurd h0 e0
theorem wri_keep_no (w2 : World) (n : Net) (fr till : Int) (A : Option Addr) (c : Nat) (nx : List NsC) (D : Option Addr) (dc : Nat) (ds : List DaC) (xs : List Int) (p : Pr) (W : World) (hc : WrC w2 n fr till A nx D ds) (h : WrI w2 n fr till (.slice A nx.length c) (.slice D ds.length dc) xs W) (hp : p ∈ tabP 0 ds) (hl : xs.length ≤ 800000000) (h0 : (keepR n nx fr till p.k p.o p.d p.pr).1 ≠ 0) :
    Calls Tryz.prog 37 #[.pointer (some ⟨w2.heap.size, 0, none⟩), iV p.k, iV p.o, iV p.d] W fun e W' => e = FailE (keepR n nx fr till p.k p.o p.d p.pr).1 ∧ Below w2.heap.size w2 W' := by
  refine (wri_keep w2 n fr till A c nx D dc ds xs p W hc h hp hl).mono ?_
  rintro e W' (⟨e0, -⟩ | ⟨-, e1, e2⟩)
  · exact absurd e0 h0
  · exact ⟨e1, e2⟩
set_option maxHeartbeats 16000000 in
set_option maxRecDepth 100000 in
theorem write_any (n : Net) (fr till : Int) (A : Option Addr) (c : Nat) (nx : List NsC) (D : Option Addr) (dc : Nat) (ds : List DaC) (w : World)
    (hn : NetIn w n) (hT : Tab w A nx) (hx : nx.length ≤ 1000000) (hD : DTab w D ds) (hd : ds.length ≤ 1000000) (hk : KW w) :
    Calls Tryz.prog 12 #[netV n, .agg #[iV fr, iV till, .slice A nx.length c, .slice D ds.length dc]] w (WriteRes w (writeTop n fr till nx ds)) := by
  have hmf : ∀ (fn : Fn) (first cap : Array Value) (w : World), (Instr.makeFunc fn first cap).run Tryz.prog w = .ok (.func fn first cap) w := fun _ _ _ _ => rfl
  have HW := Lib.hid (WrW.new w n fr till A nx.length c D ds.length dc)
  have HNP := Lib.hid (HW.out.np hn)
  obtain ⟨n0, n1, n2, n3, n4, n5⟩ := HNP.out.six
  have HK := Lib.hid (hk.below HW.out.bel)
  have HN := Lib.hid hn
  have HT := Lib.hid hT
  have HD := Lib.hid hD
  have HX := Lib.hid hx
  have HY := Lib.hid hd
  have hbad : ¬ (Sound n ∧ formedB n fr till nx ds = true) → writeTop n fr till nx ds = (1, []) := fun h => if_neg h
  have HBAD := Lib.hid hbad
  clear hn hT hD hk hx hd hbad
  by_cases hs : Sound n
  case neg =>
    have HS := Lib.hid hs; clear hs
    go_enter_defers Tryz.func12, Tryz.ntmps12
    go_wp2_with fail
    refine (scheck_any n _ HNP.out.net HK.out).mono ?_
    rintro e w1 ⟨E, m, c1, xs, rfl, -, -, hm, -, hb⟩
    have hm0 : (0 : Int) < (m : Int) := by
      rcases Nat.eq_zero_or_pos m with h | h
      · exact absurd (hm.1 h) HS.out
      · omega
    have HW1 := Lib.hid (HW.out.below hb)
    clear hb hm n0 n1 n2 n3 n4 n5 HW HNP
    go_wp2_with fail
    refine leaves_cons (f := 31) (args := #[.pointer (some ⟨w.heap.size + 1 + 1, 0, none⟩), .pointer (some ⟨w.heap.size + 1 + 1 + 1, 0, none⟩)]) (by simp) (by simp [go_sem]) ?_
    refine (write_pan (w.heap.size + 1 + 1) (w.heap.size + 1 + 1 + 1) _ _ _ 1 _ _ HW1.out.cert HW1.out.err (by omega)).mono ?_
    rintro e u' w'' ⟨rfl, rfl, rfl⟩
    exact ⟨_, (HW1.out.set (.slice none 0 0) (iV 0) (iV 1)).res _ rfl rfl, by rw [HBAD.out (by intro h; exact HS.out h.1)]; exact WriteRes.bad (by decide) (HW1.out.set (.slice none 0 0) (iV 0) (iV 1))⟩
  case pos =>
  have HS := Lib.hid hs; clear hs
  go_enter_defers Tryz.func12, Tryz.ntmps12
  go_wp2_with fail
  refine (scheck_any n _ HNP.out.net HK.out).mono ?_
  rintro e w1 ⟨E, m, c1, xs, rfl, -, -, hm, -, hb⟩
  obtain rfl : m = 0 := hm.2 HS.out
  have HW1 := Lib.hid (HW.out.below hb)
  have HNP1 := Lib.hid (HNP.out.below hb)
  clear hb hm n0 n1 n2 n3 n4 n5 HW HNP HK
  go_wp2_with fail
  refine (wformed_any w.heap.size (w.heap.size + 1) n fr till A c nx D dc ds _ HNP1.out HW1.out.pl (HT.out.below HW1.out.bel) HX.out (HD.out.below HW1.out.bel) HY.out).mono ?_
  rintro e w2 ⟨rfl, hb⟩
  have HW2 := Lib.hid (HW1.out.below hb)
  have HNP2 := Lib.hid (HNP1.out.below hb)
  clear hb HW1 HNP1
  cases hf : formedB n fr till nx ds
  case false =>
    have HF := Lib.hid hf; clear hf
    go_wp2_with fail
    refine leaves_cons (f := 31) (args := #[.pointer (some ⟨w.heap.size + 1 + 1, 0, none⟩), .pointer (some ⟨w.heap.size + 1 + 1 + 1, 0, none⟩)]) (by simp) (by simp [go_sem]) ?_
    refine (write_pan (w.heap.size + 1 + 1) (w.heap.size + 1 + 1 + 1) _ _ _ 1 _ _ HW2.out.cert HW2.out.err (by omega)).mono ?_
    rintro e u' w'' ⟨rfl, rfl, rfl⟩
    exact ⟨_, (HW2.out.set (.slice none 0 0) (iV 0) (iV 1)).res _ rfl rfl, by rw [HBAD.out (by intro h; rw [HF.out] at h; cases h.2)]; exact WriteRes.bad (by decide) (HW2.out.set (.slice none 0 0) (iV 0) (iV 1))⟩
  case true =>
  have HF := Lib.hid hf; clear hf
  have HR : Hid (writeTop n fr till nx ds = writeR n fr till nx ds) := if_pos ⟨HS.out, HF.out⟩
  obtain ⟨n0, n1, n2, n3, n4, n5⟩ := HNP2.out.six
  have p0 := HW2.out.pl.c0
  have p1 := HW2.out.pl.c1
  have p2 := HW2.out.pl.c2
  have p3 := HW2.out.pl.c3
  clear HBAD
  go_wp2_with fail
  have hws : WrS w2.heap.size (w2.alloc (wrO n fr till (.slice A nx.length c) (.slice D ds.length dc) (.slice none 0 0))) w2.heap.size n fr till (.slice A nx.length c) (.slice D ds.length dc) (.slice none 0 0) [] :=
    ⟨heap_alloc_new _ _, ⟨rfl, .inl ⟨rfl, rfl⟩⟩, by simp⟩
  have HB3 := Lib.hid (ba w2 (wrO n fr till (.slice A nx.length c) (.slice D ds.length dc) (.slice none 0 0)))
  have HWS := Lib.hid hws
  have HW3 := Lib.hid (HW2.out.below HB3.out)
  clear hws n0 n1 n2 n3 n4 n5 p0 p1 p2 p3
  change Code.wp _ _ _ _ (w2.alloc (wrO n fr till (.slice A nx.length c) (.slice D ds.length dc) (.slice none 0 0)))
  generalize (w2.alloc (wrO n fr till (.slice A nx.length c) (.slice D ds.length dc) (.slice none 0 0))) = W3 at *
  have HSw : Hid (∀ w', Below W3.heap.size W3 w' → w'.cell? ⟨w.heap.size + 1, 0, none⟩ = some (iV fr) ∧ w'.cell? ⟨w.heap.size + 1, 1, none⟩ = some (iV till) ∧ w'.cell? ⟨w2.heap.size, 3, none⟩ = some (.slice n.offA n.offs.length n.offC) ∧ w'.cell? ⟨w2.heap.size, 5, none⟩ = some (.slice n.clsA n.clss.length n.clsC)) := fun w' hb =>
    ⟨(HW3.out.below hb).pl.c0, (HW3.out.below hb).pl.c1, (HWS.out.below hb).box 3 _ rfl, (HWS.out.below hb).box 5 _ rfl⟩
  go_region_held3 (fun w' => w'.cell? ⟨w.heap.size + 1, 0, none⟩ = some (iV fr) ∧ w'.cell? ⟨w.heap.size + 1, 1, none⟩ = some (iV till) ∧ w'.cell? ⟨w2.heap.size, 3, none⟩ = some (.slice n.offA n.offs.length n.offC) ∧ w'.cell? ⟨w2.heap.size, 5, none⟩ = some (.slice n.clsA n.clss.length n.clsC)) (first | (with_reducible exact HSw.out _ (b_drew (Below.refl _ _))) | (with_reducible exact HSp.out) | (with_reducible exact HSw.out _ ((b_drew (Below.refl _ _)).alloc (by simp) _))) (first
      | (go_at_call 35; refine (put_any w2.heap.size w2.heap.size n fr till (.slice A nx.length c) (.slice D ds.length dc) (.slice none 0 0) [] [fr, till, (n.offs.length : Int), (n.clss.length : Int)] ⟨_, 0, none⟩ 4 4 _ (HWS.out.below ((b_drew (Below.refl _ _)).alloc (by simp) _)) rfl (by omega) (Nat.le_refl _) (by decide) (fun j u hu => by rw [add_at, Nat.zero_add]; exact (cell_of_row _ _ j _ _ _ (heap_alloc_new _ _)).trans (by simpa using hu))).mono ?_; rintro e w4 ⟨rfl, v1, hw1, hf1, hb1⟩; have HB4 := Lib.hid ((bt HB3.out ((b_drew (Below.refl _ _)).alloc (by simp) _)).trans hb1); have HW4 := Lib.hid (HW2.out.below HB4.out); have HWS4 := Lib.hid hw1; clear hw1 hf1 hb1; have HSp : Hid (w4.cell? ⟨w.heap.size + 1, 0, none⟩ = some (iV fr) ∧ w4.cell? ⟨w.heap.size + 1, 1, none⟩ = some (iV till) ∧ w4.cell? ⟨w2.heap.size, 3, none⟩ = some (.slice n.offA n.offs.length n.offC) ∧ w4.cell? ⟨w2.heap.size, 5, none⟩ = some (.slice n.clsA n.clss.length n.clsC)) := ⟨HW4.out.pl.c0, HW4.out.pl.c1, HWS4.out.box 3 _ rfl, HWS4.out.box 5 _ rfl⟩)
      | fail)
  have HNW2 := Lib.hid HNP2.out.net
  have HC : Hid (WrC w2 n fr till A nx D ds) := ⟨HNP2.out.net, HT.out.below HW2.out.bel, HD.out.below HW2.out.bel, HS.out.1.good, formedB_iff.1 HF.out⟩
  have HI4 : Hid (WrI w2 n fr till (.slice A nx.length c) (.slice D ds.length dc) [fr, till, (n.offs.length : Int), (n.clss.length : Int)] w4) := ⟨v1, HWS4.out, HB4.out⟩
  have p2 := HW4.out.pl.c2
  go_wp2_with fail
  clear p2 HSp HWS4 HSw HWS HW3 HB3 HNP2 HNW2 HF HT HD HN
  go_loopw [8, 55] (fun _ i wr => ∃ k : Nat, k ≤ nx.length ∧ i = iV k ∧ WrI w2 n fr till (.slice A nx.length c) (.slice D ds.length dc) ([fr, till, (n.offs.length : Int), (n.clss.length : Int)] ++ nextR1 (nx.take k)) wr ∧ (nextR1 (nx.take k)).length ≤ 12 * k) (fun _ i _ => nx.length + 1 - (intOf i).toNat)
  case atStart => exact ⟨0, by omega, rfl, by simpa [nextR1] using HI4.out, by simp [nextR1]⟩
  case round =>
  obtain ⟨k, hk, rfl, hI, hkl⟩ := hrel
  have HI := Lib.hid hI; clear hI
  have hk0 : (0 : Int) ≤ (k : Int) := by omega
  have hf12 : n.offs.length ≤ 12 := HC.out.good.few.2.1
  have hnx : nx.length = n.offs.length := HC.out.fine.next.1
  have hkk : k ≤ 12 := by omega
  clear hf12 hnx
  by_cases hlt : k < nx.length
  case pos =>
    have HLT := Lib.hid hlt
    have hk1 : (k : Int) < (nx.length : Int) := by omega
    obtain ⟨r, hr⟩ : ∃ r, nx[k]? = some r := ⟨_, List.getElem?_eq_getElem hlt⟩
    obtain ⟨S, so, hA, hSb, hcell⟩ := HC.out.tab.rd.get (i := k) (by simpa using hlt)
    have c1 : wr.cell? ⟨S, so + k, none⟩ = some (.slice r.A r.ns.length r.c) := by
      obtain ⟨-, -, hb⟩ := HI.out
      exact (hb.cell (p := ⟨S, so + k, none⟩) hSb).trans (hcell k (slI r) (by rw [List.getElem?_map, hr]; rfl))
    have HRD := Lib.hid (HC.out.tab.row r (List.mem_of_getElem? hr)).1
    have hrl := HC.out.fine.nextL r (List.mem_of_getElem? hr)
    have hf := HC.out.good.few
    have HRL : Hid (r.ns.length ≤ 12 ∧ 0 < r.ns.length ∧ ∀ y ∈ r.ns, -1000000 ≤ y ∧ y ≤ 1000000) := by
      have h1 := HC.out.fine.next.1
      exact ⟨by omega, by omega, fun y hy => by have := hrl.2 y hy; omega⟩
    have HRR := Lib.hid hr
    clear hcell hr hrl hf hSb
    subst hA
    go_wp2_with fail
    refine (wri_raise w2 n fr till _ _ ([fr, till, (n.offs.length : Int), (n.clss.length : Int)] ++ nextR1 (nx.take k)) r.ns r.A r.c _ HI.out HRD.out HRL.out.2.1 (by simp; omega) (by have := HRL.out.1; omega) HRL.out.2.2).mono ?_
    rintro e w5 ⟨rfl, hI5⟩
    have HI5 := Lib.hid hI5; clear hI5 c1
    go_wp2_with fail
    go_roundw
    case rel =>
      refine ⟨k + 1, by have := HLT.out; omega, by go_num, ?_, ?_⟩
      · have h := HI5.out
        rw [List.append_assoc, ← nextR1_one, ← nextR1_app, ← take_one HRR.out] at h
        exact h
      · rw [take_one HRR.out, nextR1_app, nextR1_one, List.length_append, List.length_map]
        have := HRL.out.1
        omega
    case measure => have := HLT.out; simp [intOf]; omega
  have HHL : Hid (([fr, till, (n.offs.length : Int), (n.clss.length : Int)] ++ nextR1 nx).length ≤ 148) := by
    rw [List.take_of_length_le (by omega)] at hkl
    show _ ≤ _
    simp only [List.length_append, List.length_cons, List.length_nil]
    omega
  have HI6 : Hid (WrI w2 n fr till (.slice A nx.length c) (.slice D ds.length dc) ([fr, till, (n.offs.length : Int), (n.clss.length : Int)] ++ nextR1 nx) wr) := by
    have h := HI.out
    rw [List.take_of_length_le (by omega)] at h
    exact h
  have hk1 : ¬ (k : Int) < (nx.length : Int) := by omega
  have HWR : Hid (WrW w wr n fr till A nx.length c D ds.length dc (.slice none 0 0) (iV 0) (iV 0)) := by
    obtain ⟨-, -, hb⟩ := HI.out
    exact HW2.out.below hb
  have p3 := HWR.out.pl.c3
  clear HI hkl hk hkk
  go_wp2_with fail
  obtain ⟨w6, hw6⟩ : ∃ w6, w6 = wr := ⟨_, rfl⟩
  subst hw6
  clear p3 hk1 hk0 HI4
  go_loopw [10, 12, 66] (fun _ _ i wr => ∃ k : Nat, k ≤ ds.length ∧ i = iV k ∧ WrI w2 n fr till (.slice A nx.length c) (.slice D ds.length dc) (([fr, till, (n.offs.length : Int), (n.clss.length : Int)] ++ nextR1 nx) ++ (ds.take k).flatMap fun x => nextR1 x.rows) wr ∧ ((ds.take k).flatMap fun x => nextR1 x.rows).length ≤ 144 * k) (fun _ _ i _ => ds.length + 1 - (intOf i).toNat)
  case atStart => exact ⟨0, by omega, rfl, by simpa using HI6.out, by simp⟩
  case round =>
  obtain ⟨k, hk, rfl, hI, hkl⟩ := hrel
  have HI := Lib.hid hI; clear hI
  have hk0 : (0 : Int) ≤ (k : Int) := by omega
  have hkk : k ≤ 4 := by
    have h1 := HC.out.good.few.2.2.2
    have h2 := HC.out.fine.dsL
    omega
  by_cases hlt : k < ds.length
  case pos =>
    have HLT := Lib.hid hlt
    have hk1 : (k : Int) < (ds.length : Int) := by omega
    obtain ⟨x, hx⟩ : ∃ x, ds[k]? = some x := ⟨_, List.getElem?_eq_getElem hlt⟩
    obtain ⟨S, so, hA, hSb, hcell⟩ := HC.out.dtab.rd.get (i := k) (by simpa using hlt)
    have c1 : wr.cell? ⟨S, so + k, none⟩ = some (.slice x.A x.rows.length x.c) := by
      obtain ⟨-, -, hb⟩ := HI.out
      exact (hb.cell (p := ⟨S, so + k, none⟩) hSb).trans (hcell k (slD x) (by rw [List.getElem?_map, hx]; rfl))
    have HTX := Lib.hid (HC.out.dtab.row x (List.mem_of_getElem? hx)).1
    have HXF := Lib.hid (HC.out.fine.days x (List.mem_of_getElem? hx))
    have hf := HC.out.good.few
    have HXL : Hid (x.rows.length ≤ 12) := by have := HXF.out.1.1; show _ ≤ _; omega
    have HXX := Lib.hid hx
    clear hcell hx hf hSb
    subst hA
    go_wp2_with fail
    obtain ⟨w7, hw7⟩ : ∃ w7, w7 = wr := ⟨_, rfl⟩
    subst hw7
    clear c1
    go_loopw [12, 72] (fun _ i wr => ∃ j : Nat, j ≤ x.rows.length ∧ i = iV j ∧ WrI w2 n fr till (.slice A nx.length c) (.slice (some ⟨S, so, none⟩) ds.length dc) ((([fr, till, (n.offs.length : Int), (n.clss.length : Int)] ++ nextR1 nx) ++ (ds.take k).flatMap fun x => nextR1 x.rows) ++ nextR1 (x.rows.take j)) wr ∧ (nextR1 (x.rows.take j)).length ≤ 12 * j) (fun _ i _ => x.rows.length + 1 - (intOf i).toNat)
    case atStart => exact ⟨0, by omega, rfl, by simpa [nextR1] using HI.out, by simp [nextR1]⟩
    case round =>
    obtain ⟨j, hj, rfl, hJ, hjl⟩ := hrel
    have HJ := Lib.hid hJ; clear hJ
    have hj0 : (0 : Int) ≤ (j : Int) := by omega
    have hxl := HXL.out
    have hjj : j ≤ 12 := by omega
    by_cases hjt : j < x.rows.length
    case pos =>
      have HJT := Lib.hid hjt
      have hj1 : (j : Int) < (x.rows.length : Int) := by omega
      obtain ⟨r, hr⟩ : ∃ r, x.rows[j]? = some r := ⟨_, List.getElem?_eq_getElem hjt⟩
      obtain ⟨T, to9, hB, hTb, hcell⟩ := HTX.out.rd.get (i := j) (by simpa using hjt)
      have c1 : wr.cell? ⟨T, to9 + j, none⟩ = some (.slice r.A r.ns.length r.c) := by
        obtain ⟨-, -, hb⟩ := HJ.out
        exact (hb.cell (p := ⟨T, to9 + j, none⟩) hTb).trans (hcell j (slI r) (by rw [List.getElem?_map, hr]; rfl))
      have HRD := Lib.hid (HTX.out.row r (List.mem_of_getElem? hr)).1
      have hrl := HXF.out.1.2 r (List.mem_of_getElem? hr)
      have hrv := HXF.out.2 r (List.mem_of_getElem? hr)
      have hf := HC.out.good.few
      have HRL : Hid (r.ns.length ≤ 12 ∧ 0 < r.ns.length ∧ ∀ y ∈ r.ns, -1000000 ≤ y ∧ y ≤ 1000000) := by
        have h1 := HXF.out.1.1
        exact ⟨by omega, by omega, fun y hy => by have := hrv y hy; omega⟩
      have HRR := Lib.hid hr
      have HBE := Lib.hid hB
      clear hcell hr hrl hrv hf hTb
      rw [hB]
      clear hB
      go_wp2_with fail
      refine (wri_raise w2 n fr till _ _ ((([fr, till, (n.offs.length : Int), (n.clss.length : Int)] ++ nextR1 nx) ++ (ds.take k).flatMap fun x => nextR1 x.rows) ++ nextR1 (x.rows.take j)) r.ns r.A r.c _ HJ.out HRD.out HRL.out.2.1 (by have := HHL.out; rw [List.length_append, List.length_append]; omega) (by have := HRL.out.1; omega) HRL.out.2.2).mono ?_
      rintro e w8 ⟨rfl, hJ2⟩
      have HJ2 := Lib.hid hJ2; clear hJ2 c1
      go_wp2_with fail
      go_roundw
      case rel =>
        refine ⟨j + 1, by have := HJT.out; omega, by go_num, ?_, ?_⟩
        · have h := HJ2.out
          rw [List.append_assoc, ← nextR1_one, ← nextR1_app, ← take_one HRR.out] at h
          exact h
        · rw [take_one HRR.out, nextR1_app, nextR1_one, List.length_append, List.length_map]
          have := HRL.out.1
          omega
      case measure => have := HJT.out; simp [intOf]; omega
    have hj1 : ¬ (j : Int) < (x.rows.length : Int) := by omega
    go_wp2_with fail
    go_roundw
    case rel =>
      refine ⟨k + 1, by have := HLT.out; omega, by go_num, ?_, ?_⟩
      · have h := HJ.out
        have hxt : x.rows.take j = x.rows := List.take_of_length_le (by omega)
        rw [hxt, List.append_assoc] at h
        rw [take_one HXX.out, List.flatMap_append]
        simpa using h
      · rw [take_one HXX.out, List.flatMap_append, List.length_append]
        have hxt : x.rows.take j = x.rows := List.take_of_length_le (by omega)
        rw [hxt] at hjl
        simp only [List.flatMap_cons, List.flatMap_nil, List.append_nil]
        omega
    case measure => have := HLT.out; simp [intOf]; omega
  have HR8 : Hid ((ds.take k).flatMap (fun x => nextR1 x.rows) = ds.flatMap fun x => nextR1 x.rows) := by
    show _ = _
    rw [List.take_of_length_le (by omega)]
  have hk1 : ¬ (k : Int) < (ds.length : Int) := by omega
  have HHD : Hid ((headR n fr till nx ds).length ≤ 800) := by
    rw [HR8.out] at hkl
    have := HHL.out
    show _ ≤ _
    unfold headR
    rw [List.length_append]
    omega
  have HI8 : Hid (WrI w2 n fr till (.slice A nx.length c) (.slice D ds.length dc) (headR n fr till nx ds) wr) := by
    have h := HI.out
    rw [HR8.out] at h
    exact h
  have HWR : Hid (WrW w wr n fr till A nx.length c D ds.length dc (.slice none 0 0) (iV 0) (iV 0)) := by
    obtain ⟨-, -, hb⟩ := HI.out
    exact HW2.out.below hb
  have p3 := HWR.out.pl.c3
  clear HI hkl hk hkk HR8
  go_wp2_with fail
  obtain ⟨w9, hw9⟩ : ∃ w9, w9 = wr := ⟨_, rfl⟩
  subst hw9
  clear p3 hk1 hk0 HI6
  go_loopw [13, 14, 15, 16, 17, 18, 84] (fun _ _ _ _ _ _ i wr => ∃ (k : Nat) (done : List Pr), k ≤ ds.length ∧ i = iV k ∧ Dn (keepP n nx fr till) (tabP 0 ds) done (tabP k (ds.drop k)) ∧ WrI w2 n fr till (.slice A nx.length c) (.slice D ds.length dc) (headR n fr till nx ds ++ (allF (keepP n nx fr till) done).2) wr) (fun _ _ _ _ _ _ i _ => ds.length + 1 - (intOf i).toNat)
  case atStart => exact ⟨0, [], by omega, rfl, by rw [List.drop_zero]; exact Dn.start _ _, by simpa [allF] using HI8.out⟩
  case round =>
  obtain ⟨k, done, hk, rfl, hdn, hI⟩ := hrel
  have hds4 : ds.length ≤ 4 := by
    have h1 := HC.out.fine.dsL
    have h2 := HC.out.good.few.2.2.2
    omega
  have HI := Lib.hid hI; clear hI
  have HDN := Lib.hid hdn; clear hdn
  have hk0 : (0 : Int) ≤ (k : Int) := by omega
  by_cases hlt : k < ds.length
  case pos =>
    have HLT := Lib.hid hlt
    have hk1 : (k : Int) < (ds.length : Int) := by omega
    obtain ⟨x, hx⟩ : ∃ x, ds[k]? = some x := ⟨_, List.getElem?_eq_getElem hlt⟩
    obtain ⟨S, so, hA, hSb, hcell⟩ := HC.out.dtab.rd.get (i := k) (by simpa using hlt)
    have c1 : wr.cell? ⟨S, so + k, none⟩ = some (.slice x.A x.rows.length x.c) := by
      obtain ⟨-, -, hb⟩ := HI.out
      exact (hb.cell (p := ⟨S, so + k, none⟩) hSb).trans (hcell k (slD x) (by rw [List.getElem?_map, hx]; rfl))
    have HTX := Lib.hid (HC.out.dtab.row x (List.mem_of_getElem? hx)).1
    have HXF := Lib.hid (HC.out.fine.days x (List.mem_of_getElem? hx))
    have HXX := Lib.hid hx
    have hx12 : x.rows.length ≤ 12 := by
      have h1 := HXF.out.1.1
      have h2 := HC.out.good.few.2.1
      omega
    have HDX : Hid (Dn (keepP n nx fr till) (tabP 0 ds) done (rowsP k 0 (x.rows.drop 0) ++ tabP (k + 1) (ds.drop (k + 1)))) := by
      have h := HDN.out
      rw [tabP_at hx] at h
      exact h
    clear hcell hx hSb
    subst hA
    go_wp2_with fail
    obtain ⟨w7, hw7⟩ : ∃ w7, w7 = wr := ⟨_, rfl⟩
    subst hw7
    clear c1
    go_loopw [15, 16, 17, 18, 91] (fun _ _ _ _ i wr => ∃ (o : Nat) (done : List Pr), o ≤ x.rows.length ∧ i = iV o ∧ Dn (keepP n nx fr till) (tabP 0 ds) done (rowsP k o (x.rows.drop o) ++ tabP (k + 1) (ds.drop (k + 1))) ∧ WrI w2 n fr till (.slice A nx.length c) (.slice (some ⟨S, so, none⟩) ds.length dc) (headR n fr till nx ds ++ (allF (keepP n nx fr till) done).2) wr) (fun _ _ _ _ i _ => x.rows.length + 1 - (intOf i).toNat)
    case atStart => exact ⟨0, done, by omega, rfl, HDX.out, HI.out⟩
    case round =>
    obtain ⟨o, done, ho, rfl, hdn, hJ⟩ := hrel
    have HJ := Lib.hid hJ; clear hJ
    have HDO := Lib.hid hdn; clear hdn
    have ho0 : (0 : Int) ≤ (o : Int) := by omega
    by_cases hot : o < x.rows.length
    case pos =>
      have HOT := Lib.hid hot
      have ho1 : (o : Int) < (x.rows.length : Int) := by omega
      obtain ⟨r, hr⟩ : ∃ r, x.rows[o]? = some r := ⟨_, List.getElem?_eq_getElem hot⟩
      obtain ⟨T, to9, hB, hTb, hcell⟩ := HTX.out.rd.get (i := o) (by simpa using hot)
      have c1 : wr.cell? ⟨T, to9 + o, none⟩ = some (.slice r.A r.ns.length r.c) := by
        obtain ⟨-, -, hb⟩ := HJ.out
        exact (hb.cell (p := ⟨T, to9 + o, none⟩) hTb).trans (hcell o (slI r) (by rw [List.getElem?_map, hr]; rfl))
      have HRD := Lib.hid (HTX.out.row r (List.mem_of_getElem? hr)).1
      have HRR := Lib.hid hr
      have hr12 : r.ns.length ≤ 12 := by
        have h1 := HXF.out.1.2 r (List.mem_of_getElem? hr)
        have h2 := HC.out.good.few.2.1
        omega
      have HBE := Lib.hid hB
      have HDY : Hid (Dn (keepP n nx fr till) (tabP 0 ds) done (colsP k o 0 (r.ns.drop 0) ++ (rowsP k (o + 1) (x.rows.drop (o + 1)) ++ tabP (k + 1) (ds.drop (k + 1))))) := by
        have h := HDO.out
        rw [rowsP_at hr, List.append_assoc] at h
        exact h
      clear hcell hr hTb
      rw [hB]
      clear hB
      go_wp2_with fail
      obtain ⟨w8, hw8⟩ : ∃ w8, w8 = wr := ⟨_, rfl⟩
      subst hw8
      clear c1
      go_loopw [17, 18, 98] (fun _ _ i wr => ∃ (d : Nat) (done : List Pr), d ≤ r.ns.length ∧ i = iV d ∧ Dn (keepP n nx fr till) (tabP 0 ds) done (colsP k o d (r.ns.drop d) ++ (rowsP k (o + 1) (x.rows.drop (o + 1)) ++ tabP (k + 1) (ds.drop (k + 1)))) ∧ WrI w2 n fr till (.slice A nx.length c) (.slice (some ⟨S, so, none⟩) ds.length dc) (headR n fr till nx ds ++ (allF (keepP n nx fr till) done).2) wr) (fun _ _ i _ => r.ns.length + 1 - (intOf i).toNat)
      case atStart => exact ⟨0, done, by omega, rfl, HDY.out, HJ.out⟩
      case round =>
      obtain ⟨d, done, hd, rfl, hdn, hL⟩ := hrel
      have HL := Lib.hid hL; clear hL
      have HDD := Lib.hid hdn; clear hdn
      have hd0 : (0 : Int) ≤ (d : Int) := by omega
      by_cases hdt : d < r.ns.length
      case pos =>
        have HDT := Lib.hid hdt
        have hd1 : (d : Int) < (r.ns.length : Int) := by omega
        obtain ⟨pr, hpr⟩ : ∃ pr, r.ns[d]? = some pr := ⟨_, List.getElem?_eq_getElem hdt⟩
        obtain ⟨U, uo, hU, hUb, hcell⟩ := HRD.out.get (i := d) (by simpa using hdt)
        have c1 : wr.cell? ⟨U, uo + d, none⟩ = some (iV pr) := by
          obtain ⟨-, -, hb⟩ := HL.out
          exact (hb.cell (p := ⟨U, uo + d, none⟩) hUb).trans (hcell d (iV pr) (by rw [List.getElem?_map, hpr]; rfl))
        have HUE := Lib.hid hU
        have HDZ : Hid (Dn (keepP n nx fr till) (tabP 0 ds) done (⟨k, o, d, pr⟩ :: (colsP k o (d + 1) (r.ns.drop (d + 1)) ++ (rowsP k (o + 1) (x.rows.drop (o + 1)) ++ tabP (k + 1) (ds.drop (k + 1)))))) := by
          have h := HDD.out
          rw [colsP_at hpr] at h
          exact h
        have HLB := Lib.hid (HC.out.fine.done HC.out.good HDD.out).1
        have HMEM : Hid ((⟨k, o, d, pr⟩ : Pr) ∈ tabP 0 ds) := by
          show _ ∈ _
          rw [HDZ.out.eq]
          exact List.mem_append_right _ (List.mem_cons_self ..)
        clear hcell hpr hUb
        rw [hU]
        clear hU
        by_cases hp : pr = -1
        case pos =>
          subst hp
          have e1 : ((-1 : Int) != -1) = false := rfl
          go_wp2_with fail
          go_roundw
          case rel =>
            have h0 : keepP n nx fr till ⟨k, o, d, -1⟩ = (0, []) := if_pos rfl
            obtain ⟨h1, h2⟩ := HDZ.out.step (by rw [h0])
            refine ⟨d + 1, _, by have := HDT.out; omega, by go_num, h1, ?_⟩
            rw [h2, h0, List.append_nil]
            exact HL.out
          case measure => have := HDT.out; simp [intOf]; omega
        have e1 : (pr != -1) = true := by simpa using hp
        have HKP : Hid (keepP n nx fr till ⟨k, o, d, pr⟩ = keepR n nx fr till k o d pr) := if_neg hp
        clear hp
        by_cases hz : (keepR n nx fr till k o d pr).1 = 0
        case pos =>
          have HZ := Lib.hid hz; clear hz
          go_wp2_with fail
          refine (wri_keep_yes w2 n fr till A c nx _ dc ds _ ⟨k, o, d, pr⟩ _ HC.out HL.out HMEM.out (by have := HLB.out; have := HHD.out; rw [List.length_append]; omega) HZ.out).mono ?_
          rintro e w9 ⟨rfl, hL2⟩
          have HL2 := Lib.hid hL2; clear hL2 c1
          go_wp2_with fail
          go_roundw
          case rel =>
            obtain ⟨h1, h2⟩ := HDZ.out.step (by rw [HKP.out]; exact HZ.out)
            refine ⟨d + 1, _, by have := HDT.out; omega, by go_num, h1, ?_⟩
            rw [h2, HKP.out, ← List.append_assoc]
            exact HL2.out
          case measure => have := HDT.out; simp [intOf]; omega
        have HZ := Lib.hid hz; clear hz
        go_wp2_with fail
        refine (wri_keep_no w2 n fr till A c nx _ dc ds _ ⟨k, o, d, pr⟩ _ HC.out HL.out HMEM.out (by have := HLB.out; have := HHD.out; rw [List.length_append]; omega) HZ.out).mono ?_
        rintro e w9 ⟨rfl, hb⟩
        have HWE := Lib.hid (HW2.out.below hb)
        have HANS : Hid (writeTop n fr till nx ds = ((keepR n nx fr till k o d pr).1, [])) := by
          show _ = _
          rw [HR.out]
          unfold writeR allR
          rw [HDZ.out.fail (by rw [HKP.out]; exact HZ.out), HKP.out, if_pos HZ.out]
        clear hb c1
        go_wp2_with fail
        refine leaves_cons (f := 31) (args := #[.pointer (some ⟨w.heap.size + 1 + 1, 0, none⟩), .pointer (some ⟨w.heap.size + 1 + 1 + 1, 0, none⟩)]) (by simp) (by simp [go_sem]) ?_
        refine (write_pan (w.heap.size + 1 + 1) (w.heap.size + 1 + 1 + 1) _ _ _ _ _ _ HWE.out.cert HWE.out.err (by omega)).mono ?_
        rintro e u' w'' ⟨rfl, rfl, rfl⟩
        exact ⟨_, (HWE.out.set (.slice none 0 0) (iV 0) _).res _ rfl rfl, by rw [HANS.out]; exact WriteRes.bad HZ.out (HWE.out.set (.slice none 0 0) (iV 0) _)⟩
      have hd1 : ¬ (d : Int) < (r.ns.length : Int) := by omega
      go_wp2_with fail
      go_roundw
      case rel =>
        refine ⟨o + 1, done, by have := HOT.out; omega, by go_num, ?_, HL.out⟩
        have h := HDD.out
        rw [List.drop_eq_nil_of_le (by omega)] at h
        exact h
      case measure => have := HOT.out; simp [intOf]; omega
    have ho1 : ¬ (o : Int) < (x.rows.length : Int) := by omega
    go_wp2_with fail
    go_roundw
    case rel =>
      refine ⟨k + 1, done, by have := HLT.out; omega, by go_num, ?_, HJ.out⟩
      have h := HDO.out
      have hxt : x.rows.drop o = [] := List.drop_eq_nil_of_le (by omega)
      rw [hxt] at h
      exact h
    case measure => have := HLT.out; simp [intOf]; omega
  have hk1 : ¬ (k : Int) < (ds.length : Int) := by omega
  have HALL : Hid (allF (keepP n nx fr till) done = allR n nx fr till ds) := by
    have h := HDN.out
    rw [List.drop_eq_nil_of_le (by omega)] at h
    show _ = _
    unfold allR
    rw [h.end]
  have HOK : Hid ((allR n nx fr till ds).1 = 0) := by
    have h := HDN.out.ok
    rw [HALL.out] at h
    exact h
  have HMI : Hid (∀ x ∈ headR n fr till nx ds ++ (allR n nx fr till ds).2, -70000 ≤ x ∧ x ≤ 70000) := fun x hx => by
    rcases List.mem_append.1 hx with hx | hx
    · exact headR_mem HC.out.fine HC.out.good x hx
    · rw [← HALL.out] at hx
      have := (HC.out.fine.done HC.out.good HDN.out).2 x hx
      omega
  have HLB : Hid ((headR n fr till nx ds ++ (allR n nx fr till ds).2).length ≤ 1000000) := by
    have h1 := (HC.out.fine.done HC.out.good HDN.out).1
    rw [HALL.out] at h1
    have h2 := HHD.out
    show _ ≤ _
    rw [List.length_append]
    omega
  have hI9 := HI.out
  rw [HALL.out] at hI9
  obtain ⟨v, hws, hb⟩ := hI9
  have HANS : Hid (writeTop n fr till nx ds = if 40000 < (headR n fr till nx ds ++ (allR n nx fr till ds).2).length then (2, []) else (0, headR n fr till nx ds ++ (allR n nx fr till ds).2)) := by
    show _ = _
    rw [HR.out]
    unfold writeR
    rw [if_neg (fun h => h HOK.out)]
  have HWE := Lib.hid (HW2.out.below hb)
  generalize headR n fr till nx ds ++ (allR n nx fr till ds).2 = xs at *
  obtain ⟨va, vc, rfl, hvc1, hvc2, -⟩ := Rd.of_own hws.own
  have HVC := Lib.hid (And.intro hvc1 hvc2)
  clear hvc1 hvc2
  have c10 : wr.cell? ⟨w2.heap.size, 10, none⟩ = some (.slice va xs.length vc) := cell_of_row _ _ 10 _ _ _ hws.row
  have HRV := Lib.hid (rd_own hws.own)
  have HVG : Hid (∀ a, va = some a → w2.heap.size ≤ a.block) := fun a ha => own_ge hws.own (by rw [ha]; rfl)
  have HB9 := Lib.hid hb
  have hl0 : xs.length ≤ 1000000 := HLB.out
  have HWZ := Lib.hid hws.row
  clear hws hb HI HDN HALL HOK hk hk0
  by_cases hlim : 40000 < xs.length
  case pos =>
    have HANS2 : Hid (writeTop n fr till nx ds = (2, [])) := by
      show _ = _
      rw [HANS.out, if_pos hlim]
    have hlim' : (40000 : Int) < (xs.length : Int) := by omega
    clear hlim
    go_wp2_with fail
    refine leaves_cons (f := 31) (args := #[.pointer (some ⟨w.heap.size + 1 + 1, 0, none⟩), .pointer (some ⟨w.heap.size + 1 + 1 + 1, 0, none⟩)]) (by simp) (by simp [go_sem]) ?_
    refine (write_pan (w.heap.size + 1 + 1) (w.heap.size + 1 + 1 + 1) _ _ _ 2 _ _ HWE.out.cert HWE.out.err (by omega)).mono ?_
    rintro e u' w'' ⟨rfl, rfl, rfl⟩
    exact ⟨_, (HWE.out.set (.slice none 0 0) (iV 0) (iV 2)).res _ rfl rfl, by rw [HANS2.out]; exact WriteRes.bad (by decide) (HWE.out.set (.slice none 0 0) (iV 0) (iV 2))⟩
  have HANS2 : Hid (writeTop n fr till nx ds = (0, xs)) := by
    show _ = _
    rw [HANS.out, if_neg hlim]
  have hlim' : ¬ (40000 : Int) < (xs.length : Int) := by omega
  clear hlim
  go_wp2_with fail
  have q0 : wr.cell? ⟨w.heap.size + 1 + 1, 0, none⟩ = some (.slice none 0 0) := cell_of_row _ _ 0 _ _ _ HWE.out.cert
  have f0 := frozen_row HWE.out.cert 0
  have r1 := row_set HWE.out.cert 0 (.slice va xs.length vc)
  have q1 : (wr.setCell ⟨w.heap.size + 1 + 1, 0, none⟩ (.slice va xs.length vc)).cell? ⟨w.heap.size + 1 + 1, 1, none⟩ = some (iV 0) := cell_of_row _ _ 1 _ _ _ r1
  have f1 := frozen_row r1 1
  have r2 := row_other (row_other HWE.out.err (B := w.heap.size + 1 + 1 + 1) (C := w.heap.size + 1 + 1) (by omega) 0 (.slice va xs.length vc)) (C := w.heap.size + 1 + 1) (by omega) 1 (iV (sealR xs))
  have q2 : ((wr.setCell ⟨w.heap.size + 1 + 1, 0, none⟩ (.slice va xs.length vc)).setCell ⟨w.heap.size + 1 + 1, 1, none⟩ (iV (sealR xs))).cell? ⟨w.heap.size + 1 + 1 + 1, 0, none⟩ = some (iV 0) := cell_of_row _ _ 0 _ _ _ r2
  have f2 := frozen_row r2 0
  have hz9 : w.heap.size + 1 + 1 + 1 < w2.heap.size := block_lt HW2.out.err
  have HC10 := Lib.hid c10
  have HC10D : Hid (wr.drew.cell? ⟨w2.heap.size, 10, none⟩ = some (.slice va xs.length vc)) := c10
  clear r1 r2
  go_region_held3 (fun w' => w'.cell? ⟨w2.heap.size, 10, none⟩ = some (.slice va xs.length vc)) (first | (with_reducible assumption) | (with_reducible exact HC10D.out) | (show World.cell? (World.setCell (World.setCell _ _ _) _ _) _ = _; rw [World.cell?_setCell_other _ _ _ _ (by simp <;> omega), World.cell?_setCell_other _ _ _ _ (by simp <;> omega)]; exact HC10.out) | (show World.cell? (World.setCell (World.setCell (World.setCell _ _ _) _ _) _ _) _ = _; rw [World.cell?_setCell_other _ _ _ _ (by simp <;> omega), World.cell?_setCell_other _ _ _ _ (by simp <;> omega), World.cell?_setCell_other _ _ _ _ (by simp <;> omega)]; exact HC10.out)) (first
      | (go_at_call 10; refine (seal_any xs va vc _ (HRV.out.below (b_drew (Below.refl _ _))) (by omega) (fun x hx => by have := HMI.out x hx; unfold I64; omega)).mono ?_; rintro e w' ⟨rfl, rfl⟩)
      | fail)
  go_wp2_with fail
  refine leaves_cons (f := 31) (args := #[.pointer (some ⟨w.heap.size + 1 + 1, 0, none⟩), .pointer (some ⟨w.heap.size + 1 + 1 + 1, 0, none⟩)]) (by simp) (by simp [go_sem]) ?_
  refine (write_idle (w.heap.size + 1 + 1) (w.heap.size + 1 + 1 + 1) _).mono ?_
  rintro e u' w'' ⟨rfl, rfl, rfl⟩
  have HWF := Lib.hid ((HWE.out.set (.slice va xs.length vc) (iV (sealR xs)) (iV 0)).below (b_drew (Below.refl _ _)))
  refine ⟨_, HWF.out.res _ rfl rfl, ?_⟩
  rw [HANS2.out]
  refine ⟨HWF.out.bel, va, vc, rfl, (HRV.out.same (by simp) (fun a ha _ => ?_)).below (b_drew (Below.refl _ _)), HVC.out⟩
  have h1 := HVG.out a ha
  exact (Below.heap_setCell _ _ _ _ (by show a.block ≠ w.heap.size + 1 + 1 + 1; omega)).trans ((Below.heap_setCell _ _ _ _ (by show a.block ≠ w.heap.size + 1 + 1; omega)).trans (Below.heap_setCell _ _ _ _ (by show a.block ≠ w.heap.size + 1 + 1; omega)))
end Go.Proofs.YtjpabeoflhkfkaaGreatDoor
namespace Go.Proofs.YtjpabeoflhkfkaaGreatDoor
open Go.RowKit

/-- Blocks laid one behind the other. -/
def allocs (w : World) : List Obj → World
  | [] => w
  | o :: os => allocs (w.alloc o) os
theorem allocs_below : ∀ (os : List Obj) (w : World), Below w.heap.size w (allocs w os)
  | [], _ => Below.refl _ _
  | o :: os, w => bt (ba w o) (allocs_below os (w.alloc o))
theorem allocs_get : ∀ (os : List Obj) (w : World) (i : Nat) (o : Obj), os[i]? = some o → (allocs w os).heap[w.heap.size + i]? = some o
  | [], _, _, _, h => by simp at h
  | o :: os, w, 0, x, h => by
    cases Option.some.inj h
    exact ((allocs_below os (w.alloc o)).block _ (by simp)).trans (heap_alloc_new w o)
  | o :: os, w, i + 1, x, h => by
    have := allocs_get os (w.alloc o) i x (by simpa using h)
    rw [World.size_alloc] at this
    rwa [show w.heap.size + (i + 1) = w.heap.size + 1 + i by omega]
theorem rd_block {w : World} {b : Nat} {cs : Array Value} {t : TypeId} {fr : Nat × Nat} (h : w.heap[b]? = some (.cells cs t fr)) : Rd w (some ⟨b, 0, none⟩) cs.toList :=
  .inr ⟨b, 0, rfl, block_lt h, fun i u hu => by rw [Nat.zero_add, cell_of_row _ _ _ _ _ _ h]; simpa using hu⟩
theorem i64_small {n : Int} (h1 : -1000000 ≤ n) (h2 : n ≤ 1000000) : I64 n := ⟨by omega, by omega⟩
/-- A table of lines of two offices; a table of promises of one class. -/
def exNx (A B : Option Addr) (x y z u : Int) : List NsC := [⟨[x, y], A, 2⟩, ⟨[z, u], B, 2⟩]
def exDs (A B C : Option Addr) (x y z u : Int) : List DaC := [⟨exNx A B x y z u, C, 2⟩]
theorem tab_two {w : World} {a b c : Nat} {x y z u : Int} (ha : w.heap[a]? = some (.cells #[iV x, iV y] 3 (0, 0))) (hb : w.heap[b]? = some (.cells #[iV z, iV u] 3 (0, 0))) (hc : w.heap[c]? = some (.cells #[.slice (some ⟨a, 0, none⟩) 2 2, .slice (some ⟨b, 0, none⟩) 2 2] 25 (0, 0)))
    (h1 : I64 x ∧ I64 y ∧ I64 z ∧ I64 u) : Tab w (some ⟨c, 0, none⟩) (exNx (some ⟨a, 0, none⟩) (some ⟨b, 0, none⟩) x y z u) := by
  refine ⟨rd_block hc, fun r hr => ?_⟩
  have : r = ⟨[x, y], some ⟨a, 0, none⟩, 2⟩ ∨ r = ⟨[z, u], some ⟨b, 0, none⟩, 2⟩ := by simpa [exNx] using hr
  rcases this with rfl | rfl
  · refine ⟨rd_block ha, fun n hn => ?_, show 2 ≤ maxLen by decide⟩
    have : n = x ∨ n = y := by simpa using hn
    rcases this with rfl | rfl
    · exact h1.1
    · exact h1.2.1
  · refine ⟨rd_block hb, fun n hn => ?_, show 2 ≤ maxLen by decide⟩
    have : n = z ∨ n = u := by simpa using hn
    rcases this with rfl | rfl
    · exact h1.2.2.1
    · exact h1.2.2.2
theorem dtab_one {w : World} {a b c d : Nat} {x y z u : Int} (ha : w.heap[a]? = some (.cells #[iV x, iV y] 3 (0, 0))) (hb : w.heap[b]? = some (.cells #[iV z, iV u] 3 (0, 0))) (hc : w.heap[c]? = some (.cells #[.slice (some ⟨a, 0, none⟩) 2 2, .slice (some ⟨b, 0, none⟩) 2 2] 25 (0, 0)))
    (hd : w.heap[d]? = some (.cells #[.slice (some ⟨c, 0, none⟩) 2 2] 37 (0, 0))) (h1 : I64 x ∧ I64 y ∧ I64 z ∧ I64 u) : DTab w (some ⟨d, 0, none⟩) (exDs (some ⟨a, 0, none⟩) (some ⟨b, 0, none⟩) (some ⟨c, 0, none⟩) x y z u) := by
  refine ⟨rd_block hd, fun r hr => ?_⟩
  obtain rfl : r = ⟨exNx (some ⟨a, 0, none⟩) (some ⟨b, 0, none⟩) x y z u, some ⟨c, 0, none⟩, 2⟩ := by simpa [exDs] using hr
  exact ⟨tab_two ha hb hc h1, show 2 ≤ 1000000 by omega⟩
end Go.Proofs.YtjpabeoflhkfkaaGreatDoor
