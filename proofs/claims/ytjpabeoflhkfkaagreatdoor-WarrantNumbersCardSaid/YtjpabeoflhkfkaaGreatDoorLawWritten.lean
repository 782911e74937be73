/-
  The walk over the law WarrantWritten.
-/
import Derived.Test.YtjpabeoflhkfkaaGreatDoorWarFin
import Derived.Test.YtjpabeoflhkfkaaGreatDoorWarTable
import Derived.Test.YtjpabeoflhkfkaaGreatDoorWarHdr
namespace Go.Proofs.YtjpabeoflhkfkaaGreatDoor
open Go.RowKit
attribute [local go_sem] Oper.semAt_some

/-- What a law has in hand: its boxes, and what was there before. -/
structure Lw (w W : World) (n : Net) (fr till : Int) (A : Option Addr) (c : Nat) (nx : List NsC) (D : Option Addr) (dc : Nat) (ds : List DaC) (m : Int) : Prop where
  nb : Nb w W w.heap.size n fr till A c nx D dc ds
  kw : KW W
  max : W.cell? ⟨1, 0, none⟩ = some (iV m)
theorem Lw.below {w W W' : World} {n : Net} {fr till : Int} {A : Option Addr} {c : Nat} {nx : List NsC} {D : Option Addr} {dc : Nat} {ds : List DaC} {m : Int} (h : Lw w W n fr till A c nx D dc ds m) (hb : Below W.heap.size W W') : Lw w W' n fr till A c nx D dc ds m :=
  ⟨h.nb.below hb, h.kw.below hb, cell_keepW hb h.max⟩
theorem Lw.new (w : World) {n : Net} {A : Option Addr} {nx : List NsC} {D : Option Addr} {ds : List DaC} (fr till : Int) (c dc : Nat) {m : Int} (hn : NetIn w n) (hT : Tab w A nx) (hD : DTab0 w D ds) (hk : KW w) (hm : w.cell? ⟨1, 0, none⟩ = some (iV m)) : Lw w ((w.alloc (netO n)).alloc (planO fr till A nx.length c D ds.length dc)) n fr till A c nx D dc ds m := by
  have h := Nb.new w fr till c dc hn hT hD
  exact ⟨h, hk.below h.bel, cell_keepW h.bel hm⟩
/-- Another table of promises stored into the plan's box. -/
theorem Nb.days {w W : World} {n : Net} {fr till : Int} {A : Option Addr} {c : Nat} {nx : List NsC} {D : Option Addr} {dc : Nat} {ds : List DaC} (h : Nb w W w.heap.size n fr till A c nx D dc ds) (hn : NetIn w n) (hT : Tab w A nx) {E : Option Addr} {ec : Nat} {es : List DaC}
    (hE : DTab0 (W.setCell ⟨w.heap.size + 1, 3, none⟩ (.slice E es.length ec)) E es) : Nb w (W.setCell ⟨w.heap.size + 1, 3, none⟩ (.slice E es.length ec)) w.heap.size n fr till A c nx E ec es := by
  have hb : Below w.heap.size w (W.setCell ⟨w.heap.size + 1, 3, none⟩ (.slice E es.length ec)) := h.bel.setCell (by simp) _
  exact ⟨hb, row_other h.net (by omega) _ _, row_set h.plan 3 _, hn.below hb, hT.below hb, hE⟩
theorem DTab.all {w : World} {D : Option Addr} {ds : List DaC} (h : DTab w D ds) : DTab0 w D ds := ⟨h.rd, fun r hr => ⟨(h.row r hr).1, by have := (h.row r hr).2; unfold maxLen; omega⟩⟩
set_option maxHeartbeats 2000000 in
set_option maxRecDepth 100000 in
theorem begins_yes (xs ys : List Int) (A B : Option Addr) (c c' : Nat) (w : World) (hA : Rd w A ((xs ++ ys).map iV)) (hB : Rd w B (xs.map iV)) (hc : (xs ++ ys).length ≤ c) (hl : (xs ++ ys).length ≤ 1000000) (h0 : 0 < xs.length) :
    Calls Tryz.prog 22 #[.slice A (xs ++ ys).length c, .slice B xs.length c'] w fun e w' => e = .returned (.bool true) ∧ Below w.heap.size w w' := by
  have hP : Rd w A (xs.map iV) := by
    have := hA.take xs.length
    rw [← List.map_take, List.take_left] at this
    exact this
  have HP := Lib.hid hP
  have HB := Lib.hid hB
  have hlen : (xs ++ ys).length = xs.length + ys.length := List.length_append
  obtain ⟨S, so, hAA, -, -⟩ := hA.get (i := 0) (by simp; omega)
  subst hAA
  clear hP hA hB
  have e1 : (xs.length : Int) ≤ ((xs ++ ys).length : Int) := by omega
  have e2 : (0 : Int) ≤ (xs.length : Int) := by omega
  have e3 : (xs.length : Int) ≤ (c : Int) := by omega
  generalize (xs ++ ys).length = L at *
  go_enter Tryz.func22, Tryz.ntmps22
  go_wp2_with fail
  refine (ints_any xs xs (some ⟨S, so, none⟩) B _ c' w HP.out HB.out (by omega)).mono ?_
  rintro e w1 ⟨rfl, hb⟩
  have HB1 := Lib.hid hb; clear hb
  go_wp2_with fail
  go_ret
  exact ⟨by simp, HB1.out⟩
set_option maxHeartbeats 8000000 in
set_option maxRecDepth 100000 in
theorem written_any (n : Net) (fr till : Int) (A : Option Addr) (c : Nat) (nx : List NsC) (D : Option Addr) (dc : Nat) (ds : List DaC) (m : Int) (w : World) (hn : NetIn w n) (hT : Tab w A nx) (hx : nx.length ≤ maxLen) (hD : DTab0 w D ds) (hd : ds.length ≤ maxLen)
    (hk : KW w) (hm : w.cell? ⟨1, 0, none⟩ = some (iV m)) :
    Calls Tryz.prog 6 #[netV n, planV fr till A nx.length c D ds.length dc] w fun e w' => e = .returned (.bool true) ∧ Below w.heap.size w w' := by
  have HL0 := Lib.hid (Lw.new w fr till c dc hn hT hD hk hm)
  have HX := Lib.hid hx
  have HY := Lib.hid hd
  have HN0 := Lib.hid (And.intro hn (And.intro hT (And.intro hk hm)))
  clear hn hT hx hD hd hk hm
  go_enter Tryz.func6, Tryz.ntmps6
  go_upto_region 1 with fail
  change Code.wp _ _ _ _ ((w.alloc (netO n)).alloc (planO fr till A nx.length c D ds.length dc))
  generalize ((w.alloc (netO n)).alloc (planO fr till A nx.length c D ds.length dc)) = W at *
  go_wp2_with fail
  refine (head8_any _ m HL0.out.kw HL0.out.max).mono ?_
  rintro e w1 ⟨rfl, hb⟩
  have HL := Lib.hid (HL0.out.below hb)
  clear hb HL0
  obtain ⟨⟨n0, n1, n2, n3, n4, n5⟩, p0, p1, p2, p3⟩ := HL.out.nb.cells
  go_wp2_with fail
  refine (fine8_any n fr till A c nx D dc ds _ HL.out.nb.nin HL.out.nb.tab HX.out HL.out.nb.dtab HY.out).mono ?_
  rintro e w2 ⟨⟨b, rfl, hbd⟩, hb⟩
  have HL2 := Lib.hid (HL.out.below hb)
  have HV0 := Lib.hid hbd
  clear hb hbd HL n0 n1 n2 n3 n4 n5 p0 p1 p2 p3
  cases b
  case false =>
    go_wp2_with fail
    go_ret
    exact ⟨rfl, HL2.out.nb.bel⟩
  have HV := Lib.hid (HV0.out rfl)
  clear HV0
  obtain ⟨⟨n0, n1, n2, n3, n4, n5⟩, p0, p1, p2, p3⟩ := HL2.out.nb.cells
  obtain ⟨r1, r2, r3, r4⟩ := HV.out.fine.rng
  go_wp2_with fail
  refine (table_any n A c nx fr till _ HL2.out.nb.nin HL2.out.nb.tab HX.out HL2.out.kw HV.out.sound HV.out.fine.next r1 r2 r3 r4).mono ?_
  rintro e w3 h3
  obtain ⟨g, gc, es, rfl, hes, hv, hb, hg⟩ := tableR_dtab h3 (fun k hk o ho d hd => by have := mostR_in n nx k o d fr till; unfold I64; omega) (by have := HV.out.offs; omega)
  have HL3 := Lib.hid (HL2.out.below hb)
  have HV3 := Lib.hid hv
  have HES := Lib.hid hes
  have HSZ := Lib.hid hb.size
  have HBK : Hid (w.heap.size + 1 < w2.heap.size) := block_lt HL2.out.nb.plan
  clear hb h3 hv hes hg HL2 n0 n1 n2 n3 n4 n5 p0 p1 p2 p3
  have p3 : w3.cell? ⟨w.heap.size + 1, 3, none⟩ = some (.slice D ds.length dc) := HL3.out.nb.cells.2.2.2.2
  have f3 : w3.frozen? ⟨w.heap.size + 1, 3, none⟩ = false := frozen_row HL3.out.nb.plan 3
  have HE4 := Lib.hid (HES.out _ (KeepB.set w3 HBK.out 3 (.slice (some ⟨g, 0, none⟩) es.length gc)))
  have HN4 := Lib.hid (HL3.out.nb.days HN0.out.1 HN0.out.2.1 HE4.out.all)
  have HL4 : Hid (Lw w (w3.setCell ⟨w.heap.size + 1, 3, none⟩ (.slice (some ⟨g, 0, none⟩) es.length gc)) n fr till A c nx (some ⟨g, 0, none⟩) gc es m) := ⟨HN4.out, HN0.out.2.2.1.below HN4.out.bel, cell_keepW HN4.out.bel HN0.out.2.2.2⟩
  clear HN4 HES HSZ HBK HL3
  go_upto_region 5 with fail
  clear p3 f3
  change Code.wp _ _ _ _ (w3.setCell ⟨w.heap.size + 1, 3, none⟩ (.slice (some ⟨g, 0, none⟩) es.length gc))
  generalize (w3.setCell ⟨w.heap.size + 1, 3, none⟩ (.slice (some ⟨g, 0, none⟩) es.length gc)) = w4 at *
  obtain ⟨⟨n0, n1, n2, n3, n4, n5⟩, p0, p1, p2, p3⟩ := HL4.out.nb.cells
  have hx6 : nx.length ≤ 1000000 := by have := HV.out.fine.next.1; have := HV.out.offs; omega
  have hd6 : es.length ≤ 1000000 := by have := HV3.out.1; have := HV.out.sound.1.good.few.2.2.2; omega
  go_wp2_with fail
  refine (write_any n fr till A c nx (some ⟨g, 0, none⟩) gc es _ HL4.out.nb.nin HL4.out.nb.tab hx6 HE4.out hd6 HL4.out.kw).mono ?_
  rintro e w5 ⟨hb, B, b, rfl, hr, hb1, hb2⟩
  have HL5 := Lib.hid (HL4.out.below hb)
  clear hb HL4 HE4 n0 n1 n2 n3 n4 n5 p0 p1 p2 p3
  rcases writeTop_most HV.out.sound HV.out.fine HV3.out with hw | ⟨l, hw⟩
  · rw [hw] at hr ⊢
    clear hw hr hb1 hb2
    dsimp only
    have HB6 := Lib.hid (bt HL5.out.nb.bel (ba w5 (.cells #[.slice B ([] : List Int).length b, iV (sealW (2, []))] 43)))
    generalize sealW (2, []) = s2 at *
    go_wp2_with fail
    go_ret
    exact ⟨rfl, HB6.out⟩
  · rw [hw] at hr hb1 ⊢
    dsimp only at hr hb1 ⊢
    have HSX : Hid (sealW (0, headR n fr till nx es ++ l) = sealR (headR n fr till nx es ++ l)) := rfl
    rw [HSX.out]
    have HFE := Lib.hid (fine_most HV.out.fine HV3.out)
    have HML : Hid ((headR n fr till nx es ++ l).length ≤ 40000 ∧ ∀ x ∈ headR n fr till nx es ++ l, I64 x) := by
      obtain ⟨a1, a2⟩ := writeTop_bd HFE.out HV.out.sound.1.good hw
      exact ⟨a1, fun x hx => by have := a2 x hx; unfold I64; omega⟩
    have hc := heap_alloc_new w5 (.cells #[.slice B (headR n fr till nx es ++ l).length b, iV (sealR (headR n fr till nx es ++ l))] 43)
    have hb := ba w5 (.cells #[.slice B (headR n fr till nx es ++ l).length b, iV (sealR (headR n fr till nx es ++ l))] 43)
    have HL6 := Lib.hid (HL5.out.below hb)
    have HR6 := Lib.hid (hr.below hb)
    have HC6 := Lib.hid hc
    have HCB := Lib.hid (And.intro hb1 hb2)
    clear hr hb1 hb2 hc hb hw HL5
    generalize hH : headR n fr till nx es = H at *
    have HH := Lib.hid hH; clear hH
    generalize hLL : H ++ l = L at *
    have HLL := Lib.hid hLL; clear hLL
    go_upto_region 8 with fail
    change Code.wp _ _ _ _ (w5.alloc (.cells #[.slice B L.length b, iV (sealR L)] 43))
    generalize (w5.alloc (.cells #[.slice B L.length b, iV (sealR L)] 43)) = W6 at *
    generalize w5.heap.size = Z at *
    generalize hsx : sealR L = sx at *
    have HSX2 := Lib.hid hsx; clear hsx
    obtain ⟨-, p0, p1, p2, p3⟩ := HL6.out.nb.cells
    have HSW : Hid (∀ w', Below W6.heap.size W6 w' → w'.cell? ⟨w.heap.size + 1, 0, none⟩ = some (iV fr) ∧ w'.cell? ⟨w.heap.size + 1, 1, none⟩ = some (iV till) ∧ w'.cell? ⟨w.heap.size + 1, 2, none⟩ = some (.slice A nx.length c) ∧ w'.cell? ⟨w.heap.size + 1, 3, none⟩ = some (.slice (some ⟨g, 0, none⟩) es.length gc) ∧ w'.cell? ⟨Z, 0, none⟩ = some (.slice B L.length b) ∧ w'.cell? ⟨Z, 1, none⟩ = some (iV sx)) := fun w' hb => by
      have hz := (hb.block _ (block_lt HC6.out)).trans HC6.out
      exact ⟨cell_keepW hb p0, cell_keepW hb p1, cell_keepW hb p2, cell_keepW hb p3, cell_of_row _ _ 0 _ _ _ hz, cell_of_row _ _ 1 _ _ _ hz⟩
    have HHD : Hid (∀ W, Tab W A nx → DTab0 W (some ⟨g, 0, none⟩) es → Calls Tryz.prog 13 #[planV fr till A nx.length c (some ⟨g, 0, none⟩) es.length gc] W (HdP H W)) := fun W h1 h2 => by
      have := header_any n fr till A c nx (some ⟨g, 0, none⟩) gc es W h1 h2 HV.out.sound.1.good HFE.out
      rwa [HH.out] at this
    have HH0 : Hid (0 < H.length) := by
      show 0 < _
      rw [← HH.out]
      unfold headR
      simp
    have HBG : Hid (∀ W B' c', Rd W B (L.map iV) → Rd W B' (H.map iV) → Calls Tryz.prog 22 #[.slice B L.length b, .slice B' H.length c'] W fun e w' => e = .returned (.bool true) ∧ Below W.heap.size W w') := fun W B' c' h1 h2 => by
      have h3 := HML.out.1
      have h4 := HCB.out
      rw [← HLL.out] at h1 h3 h4 ⊢
      exact begins_yes H l B B' b c' W h1 h2 h4.1 (by omega) HH0.out
    have e8 : (sx == sx) = true := by simp
    clear p0 p1 p2 p3
    go_region_held3 (fun w' => w'.cell? ⟨w.heap.size + 1, 0, none⟩ = some (iV fr) ∧ w'.cell? ⟨w.heap.size + 1, 1, none⟩ = some (iV till) ∧ w'.cell? ⟨w.heap.size + 1, 2, none⟩ = some (.slice A nx.length c) ∧ w'.cell? ⟨w.heap.size + 1, 3, none⟩ = some (.slice (some ⟨g, 0, none⟩) es.length gc) ∧ w'.cell? ⟨Z, 0, none⟩ = some (.slice B L.length b) ∧ w'.cell? ⟨Z, 1, none⟩ = some (iV sx)) (first | (with_reducible exact HSW.out _ (b_drew (Below.refl _ _))) | (with_reducible exact HSW.out _ HB7.out) | (with_reducible exact HSW.out _ HB8.out)) (first
      | (go_at_call 13; refine (HHD.out _ (HL6.out.nb.tab.below (b_drew (Below.refl _ _))) (HL6.out.nb.dtab.below (b_drew (Below.refl _ _)))).mono ?_; rintro e w7 ⟨v, rfl, hown, hb⟩; obtain ⟨g7, c7, rfl, -, -, hr7, -⟩ := own_rd hown HH0.out; have HR7 := Lib.hid hr7; have HB7 := Lib.hid (bdr hb); clear hb hown hr7)
      | (go_at_call 22; refine (HBG.out _ _ _ (HR6.out.below HB7.out) HR7.out).mono ?_; rintro e w8 ⟨rfl, hb⟩; have HB8 := Lib.hid (bt HB7.out hb); clear hb)
      | (go_at_call 10; refine (seal_any L B b _ (HR6.out.below HB8.out) (by have := HML.out.1; omega) HML.out.2).mono ?_; rintro e w9 ⟨rfl, rfl⟩; rw [HSX2.out])
      | fail)
    go_wp2_with fail
    go_ret
    exact ⟨rfl, bt HL6.out.nb.bel HB8.out⟩
end Go.Proofs.YtjpabeoflhkfkaaGreatDoor
