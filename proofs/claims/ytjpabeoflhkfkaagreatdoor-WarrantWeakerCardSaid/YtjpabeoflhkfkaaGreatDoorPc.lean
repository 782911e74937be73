/-
  The walks over what panics with an error: demand, must; the code of a panic. Ways in plain Lean; rows of stops. The walk over promise.walk: the way of an item. The walk over Way's deferred closure: it recovers and answers the error's code. The walk over promise.formed: is a table well-formed?
-/
import Derived.Test.YtjpabeoflhkfkaaGreatDoorPb
import Derived.Deep.AppendSrc
import Derived.Defers
import Derived.Recover
namespace Go.Proofs.YtjpabeoflhkfkaaGreatDoor
open Go.RowKit

/-- A panic with an error of the program. -/
abbrev FailE (x : Int) : Ending := .panicked [{ v := .iface 44 (iV x), recovered := false }]
set_option maxHeartbeats 400000 in
theorem demand_yes (w : World) : Calls Tryz.prog 42 #[.bool true] w fun e w' => e = .returned (.tuple #[]) ∧ w = w' := by
  go_enter Tryz.func42, Tryz.ntmps42
  go_wp2
  go_end0
  exact ⟨rfl, rfl⟩
set_option maxHeartbeats 400000 in
theorem demand_no (w : World) : Calls Tryz.prog 42 #[.bool false] w fun e w' => e = FailE 1 ∧ w = w' := by
  go_enter Tryz.func42, Tryz.ntmps42
  go_wp2
  exact ⟨rfl, rfl, rfl⟩
set_option maxHeartbeats 400000 in
theorem must_yes (x : Int) (w : World) : Calls Tryz.prog 54 #[iV x, iV 0] w fun e w' => e = .returned (iV x) ∧ w = w' := by
  go_enter Tryz.func54, Tryz.ntmps54
  go_wp2
  go_ret
  exact ⟨rfl, rfl⟩
set_option maxHeartbeats 400000 in
theorem must_no (x y : Int) (w : World) (hy : y ≠ 0) : Calls Tryz.prog 54 #[iV x, iV y] w fun e w' => e = FailE y ∧ w = w' := by
  have h1 : (y == 0) = false := by simpa using hy
  go_enter Tryz.func54, Tryz.ntmps54
  go_wp2
  exact ⟨rfl, rfl, rfl⟩
end Go.Proofs.YtjpabeoflhkfkaaGreatDoor
namespace Go.Proofs.YtjpabeoflhkfkaaGreatDoor
open Go.RowKit

structure St where
  office : Int
  arrive : Int
  depart : Int
  line : Int
def encSt (s : St) : List Value := [iV s.office, iV s.arrive, iV s.depart, iV s.line]
theorem encSt_len (s : St) : (encSt s).length = 4 := rfl
def zOff : Off := ⟨[], 0, 0, 0, 0, 0, [], none, 0⟩
def zCal : Cal := ⟨0, [], none, 0, [], none, 0⟩
def zLin : Lin := ⟨[], 0, 0, 0, 0, 0⟩
def zCls : Cls := ⟨[], 0, 0⟩
def offAt (n : Net) (o : Nat) : Off := n.offs.getD o zOff
def calAt (n : Net) (o : Nat) : Cal := n.cals.getD (offAt n o).cal.toNat zCal
def linAt (n : Net) (l : Nat) : Lin := n.lins.getD l zLin
def clsAt (n : Net) (k : Nat) : Cls := n.clss.getD k zCls
/-- What a sound network is good for. -/
structure Good (n : Net) : Prop where
  cal : ∀ c ∈ n.cals, calB c = true
  off : ∀ o ∈ n.offs, (0 ≤ o.cal ∧ o.cal < n.cals.length) ∧ 1 ≤ o.passes ∧ o.passes ≤ 4 ∧ 1 ≤ o.minutes ∧ o.minutes ≤ 240
  lin : ∀ l ∈ n.lins, (0 ≤ l.frm ∧ l.frm < n.offs.length) ∧ (0 ≤ l.to ∧ l.to < n.offs.length) ∧ 0 ≤ l.at_ ∧ l.at_ < 1440 ∧ 1 ≤ l.travel ∧ l.travel ≤ 5000
  cls : ∀ k ∈ n.clss, 0 ≤ k.cut ∧ k.cut < 1440 ∧ 0 ≤ k.deliver ∧ k.deliver < 1440
  few : n.cals.length ≤ 6 ∧ n.offs.length ≤ 12 ∧ n.lins.length ≤ 40 ∧ n.clss.length ≤ 4
theorem offAt_get {n : Net} {o : Nat} (h : o < n.offs.length) : n.offs[o]? = some (offAt n o) := by unfold offAt; simp [List.getD, h]
theorem linAt_get {n : Net} {l : Nat} (h : l < n.lins.length) : n.lins[l]? = some (linAt n l) := by unfold linAt; simp [List.getD, h]
theorem clsAt_get {n : Net} {k : Nat} (h : k < n.clss.length) : n.clss[k]? = some (clsAt n k) := by unfold clsAt; simp [List.getD, h]
theorem Good.calAt {n : Net} (h : Good n) {o : Nat} (ho : o < n.offs.length) : ∃ ci : Nat, (offAt n o).cal = (ci : Int) ∧ n.cals[ci]? = some (calAt n o) ∧ calB (calAt n o) = true := by
  obtain ⟨⟨h1, h2⟩, -⟩ := h.off _ (List.mem_of_getElem? (offAt_get ho))
  have hlt : (offAt n o).cal.toNat < n.cals.length := by omega
  have e : n.cals[(offAt n o).cal.toNat]? = some (Go.Proofs.YtjpabeoflhkfkaaGreatDoor.calAt n o) := by unfold Go.Proofs.YtjpabeoflhkfkaaGreatDoor.calAt; simp [List.getD, hlt]
  exact ⟨(offAt n o).cal.toNat, by omega, e, h.cal _ (List.mem_of_getElem? e)⟩
/-- The table of lines. -/
structure NsC where
  ns : List Int
  A : Option Addr
  c : Nat
abbrev slI (x : NsC) : Value := .slice x.A x.ns.length x.c
structure Tab (w : World) (A : Option Addr) (rows : List NsC) : Prop where
  rd : Rd w A (rows.map slI)
  row : ∀ r ∈ rows, Rd w r.A (r.ns.map iV) ∧ (∀ n ∈ r.ns, I64 n) ∧ r.ns.length ≤ maxLen
theorem Tab.below {w w' : World} {A : Option Addr} {rows : List NsC} (h : Tab w A rows) (hb : Below w.heap.size w w') : Tab w' A rows := ⟨h.rd.below hb, fun r hr => ⟨(h.row r hr).1.below hb, (h.row r hr).2⟩⟩
def nxAt (nx : List NsC) (o d : Nat) : Int := ((nx.map (·.ns)).getD o []).getD d (-1)
/-- It is well-formed. -/
def Formed (n : Net) (nx : List NsC) : Prop := nx.length = n.offs.length ∧ ∀ o < n.offs.length, ∃ r, nx[o]? = some r ∧ r.ns.length = n.offs.length ∧ ∀ l ∈ r.ns, l = -1 ∨ 0 ≤ l ∧ l < n.lins.length ∧ (linAt n l.toNat).frm = o
def wayR (n : Net) (nx : List NsC) (dst : Nat) : Nat → Nat → Int → Int × List St
  | 0, o, t => if o = dst then (0, [⟨o, t, -1, -1⟩]) else if nxAt nx o dst = -1 then (170, []) else
    let d := departR (calAt n o) (linAt n (nxAt nx o dst).toNat) (readyR (offAt n o) t)
    if d.2 = 0 then (170, []) else (d.2, [])
  | f + 1, o, t => if o = dst then (0, [⟨o, t, -1, -1⟩]) else if nxAt nx o dst = -1 then (170, []) else
    let d := departR (calAt n o) (linAt n (nxAt nx o dst).toNat) (readyR (offAt n o) t)
    if d.2 = 0 then
      let r := wayR n nx dst f (linAt n (nxAt nx o dst).toNat).to.toNat (d.1 + (linAt n (nxAt nx o dst).toNat).travel)
      if r.1 = 0 then (0, ⟨o, t, d.1, nxAt nx o dst⟩ :: r.2) else (r.1, [])
    else (d.2, [])
def comb (done : List St) (r : Int × List St) : Int × List St := if r.1 = 0 then (0, done ++ r.2) else (r.1, [])
theorem comb_step (done : List St) (s : St) (r : Int × List St) : comb done (if r.1 = 0 then (0, s :: r.2) else (r.1, [])) = comb (done ++ [s]) r := by
  unfold comb
  by_cases h : r.1 = 0
  · simp [h]
  · simp [h]
/-- A store into a row of one's own. -/
theorem own_store {w : World} {base size n g c : Nat} {e : TypeId} {xs : List Value} (h : w.ownsRow base e size (.slice (some ⟨g, 0, none⟩) n c) n xs) (j : Nat) (u : Value) : (w.setCell ⟨g, j, none⟩ u).ownsRow base e size (.slice (some ⟨g, 0, none⟩) n c) n (xs.set j u) := by
  refine ⟨by rw [List.length_set]; exact h.1, ?_⟩
  rcases h.2 with ⟨hv, _⟩ | ⟨g', cap, cur, hv, hb, hg, hc, hm, hs, ht⟩
  · cases hv
  · cases hv
    refine .inr ⟨g, c, cur.setIfInBounds j u, rfl, hb, ?_, hc, hm, by rw [Array.size_setIfInBounds]; exact hs, ?_⟩
    · simp [World.setCell, Array.getElem?_modify, hg]
    · rw [Array.toList_setIfInBounds, List.take_set, ht]
theorem own_blk {w : World} {base size n : Nat} {e : TypeId} {A : Option Addr} {c : Nat} {xs : List Value} (h : w.ownsRow base e size (.slice A n c) n xs) (hn : 0 < n) : ∃ g, A = some ⟨g, 0, none⟩ ∧ base ≤ g ∧ g < w.heap.size ∧ (∀ j, w.frozen? ⟨g, j, none⟩ = false) ∧ ∀ j v, xs[j]? = some v → w.cell? ⟨g, j, none⟩ = some v := by
  rcases h.2 with ⟨hv, h0⟩ | ⟨g, cap, cur, hv, hb, hg, hc, hm, hs, ht⟩
  · omega
  · cases hv
    refine ⟨g, rfl, hb, block_lt hg, fun j => frozen_row hg j, fun j v hj => ?_⟩
    have := h.cells (g := g) rfl j v hj
    rw [add_at, Nat.zero_add] at this
    exact this
theorem flat_set {l : List St} {s : St} {x : St} : ((l ++ [x]).flatMap encSt).set (l.length * 4 + 3) (iV s.line) = (l ++ [{ x with line := s.line }]).flatMap encSt ∧ ((l ++ [x]).flatMap encSt).set (l.length * 4 + 2) (iV s.depart) = (l ++ [{ x with depart := s.depart }]).flatMap encSt := by
  have hl : (l.flatMap encSt).length = l.length * 4 := by
    induction l with
    | nil => rfl
    | cons a l ih => rw [List.flatMap_cons, List.length_append, ih, encSt_len, List.length_cons]; omega
  simp only [List.flatMap_append, List.flatMap_cons, List.flatMap_nil, List.append_nil]
  constructor
  · rw [List.set_append_right _ _ (by rw [hl]; omega), hl, Nat.add_sub_cancel_left]
    rfl
  · rw [List.set_append_right _ _ (by rw [hl]; omega), hl, Nat.add_sub_cancel_left]
    rfl
end Go.Proofs.YtjpabeoflhkfkaaGreatDoor
namespace Go.Proofs.YtjpabeoflhkfkaaGreatDoor
open Go.RowKit

theorem app_below {B base : Nat} {w wr w4 : World} {e : TypeId} {size : Nat} {v : Value} {n : Nat} {xs : List Value} (HB : Below B w wr) (hB : B ≤ w.heap.size) (HO : wr.ownsRow base e size v n xs) (hb : B ≤ base) (HG : wr.grownBy w4 v.ownBlock) : Below B w w4 :=
  ⟨HG.os.trans HB.os, HG.tape.trans HB.tape, HG.output.trans HB.output, Nat.le_trans HB.size HG.size, fun i hi => (HG.block i (Nat.lt_of_lt_of_le (Nat.lt_of_lt_of_le hi hB) HB.size) (fun e => by have := (HO.lt i e.symm).1; omega)).trans (HB.block i hi)⟩
theorem Rd.new (w : World) (cs : List Value) (t : TypeId) : Rd (w.alloc (.cells cs.toArray t)) (some ⟨w.heap.size, 0, none⟩) cs := by
  refine .inr ⟨_, _, rfl, by simp, fun i u hu => ?_⟩
  rw [cell_of_row _ _ _ _ _ _ (heap_alloc_new w (.cells cs.toArray t))]
  simpa using hu
theorem src_k {P : Program} {w : World} {tx e' : TypeId} (size : Nat) (hk : P.underlying tx = some (.slice e')) {b off m c : Nat} {xs : List Value} (h : Rd w (some ⟨b, off, none⟩) xs) (hn : xs.length = m * size) (h1 : ∀ u ∈ xs, u.oneCell' = true) : Src P size tx (.slice (some ⟨b, off, none⟩) m c) m xs w := by
  refine Src.ofSlice w hk _ m c xs hn (fun j u hu => ?_) h1
  rcases h with rfl | ⟨b', off', he, hb, hc⟩
  · simp at hu
  · cases he
    rw [add_at]
    exact hc j u hu
theorem firstR_in {c : Cal} {m t x : Int} (hm1 : 0 ≤ m) (hm2 : m < 1440) (h : firstR c m t = (x, 0)) : t ≤ x ∧ x ≤ t + 90000 := by
  rw [firstR_eq] at h
  rcases nextR_cases c (firstDay c m t) with ⟨d, hd⟩ | hd
  · have hin := nextR_in hd
    rw [hd] at h
    simp only [if_true] at h
    have hx : timeOf c d m = x := (Prod.mk.inj h).1
    unfold firstDay dayOf minOf at hin
    unfold timeOf at hx
    split at hin <;> omega
  · rw [hd] at h
    simp at h
theorem wayR_nil (n : Net) (nx : List NsC) (d : Nat) : ∀ (f o : Nat) (t : Int), (wayR n nx d f o t).1 ≠ 0 → (wayR n nx d f o t).2 = []
  | 0, o, t => by
    unfold wayR
    split
    · intro h; exact absurd rfl h
    · split
      · intro _; rfl
      · dsimp only; split <;> (intro _; rfl)
  | f + 1, o, t => by
    unfold wayR
    split
    · intro h; exact absurd rfl h
    · split
      · intro _; rfl
      · dsimp only
        split
        · split
          · intro h; exact absurd rfl h
          · intro _; rfl
        · intro _; rfl
theorem comb_nil (r : Int × List St) (h : r.1 ≠ 0 → r.2 = []) : comb [] r = r := by
  unfold comb
  by_cases h0 : r.1 = 0
  · rw [if_pos h0, List.nil_append, ← h0]
  · rw [if_neg h0, ← h h0]
theorem wayR_at (n : Net) (nx : List NsC) (d f : Nat) (t : Int) : wayR n nx d f d t = (0, [⟨d, t, -1, -1⟩]) := by cases f <;> simp [wayR]
theorem wayR_no (n : Net) (nx : List NsC) (d f o : Nat) (t : Int) (h : o ≠ d) (hl : nxAt nx o d = -1) : wayR n nx d f o t = (170, []) := by cases f <;> simp [wayR, h, hl]
theorem wayR_bad (n : Net) (nx : List NsC) (d f o : Nat) (t : Int) (h : o ≠ d) (hl : nxAt nx o d ≠ -1) (he : (departR (calAt n o) (linAt n (nxAt nx o d).toNat) (readyR (offAt n o) t)).2 ≠ 0) : wayR n nx d f o t = ((departR (calAt n o) (linAt n (nxAt nx o d).toNat) (readyR (offAt n o) t)).2, []) := by cases f <;> simp [wayR, h, hl, he]
theorem wayR_last (n : Net) (nx : List NsC) (d o : Nat) (t : Int) (h : o ≠ d) (hl : nxAt nx o d ≠ -1) (he : (departR (calAt n o) (linAt n (nxAt nx o d).toNat) (readyR (offAt n o) t)).2 = 0) : wayR n nx d 0 o t = (170, []) := by simp [wayR, h, hl, he]
theorem wayR_next (n : Net) (nx : List NsC) (d f o : Nat) (t : Int) (h : o ≠ d) (hl : nxAt nx o d ≠ -1) (he : (departR (calAt n o) (linAt n (nxAt nx o d).toNat) (readyR (offAt n o) t)).2 = 0) (done : List St) :
    comb done (wayR n nx d (f + 1) o t) = comb (done ++ [⟨o, t, (departR (calAt n o) (linAt n (nxAt nx o d).toNat) (readyR (offAt n o) t)).1, nxAt nx o d⟩]) (wayR n nx d f (linAt n (nxAt nx o d).toNat).to.toNat ((departR (calAt n o) (linAt n (nxAt nx o d).toNat) (readyR (offAt n o) t)).1 + (linAt n (nxAt nx o d).toNat).travel)) := by
  rw [← comb_step]
  congr 1
  rw [wayR]
  rw [if_neg h, if_neg hl]
  simp only [he, if_true]
def WalkR (w : World) (r : Int × List St) (e : Ending) (w' : World) : Prop :=
  Below w.heap.size w w' ∧ ((r.1 = 0 ∧ ∃ A c, e = .returned (.slice A r.2.length c) ∧ w'.ownsRow w.heap.size 53 4 (.slice A r.2.length c) r.2.length (r.2.flatMap encSt)) ∨ (r.1 ≠ 0 ∧ e = FailE r.1))
theorem stInfo : (Tryz.prog.info? 53).map (fun i => (i.zero, i.size, i.bytes)) = some (some (.agg #[iV 0, iV 0, iV 0, iV 0]), 4, 32) := by kernel_rfl
theorem own_st (w : World) (s : St) : (w.alloc (.cells #[iV s.office, iV s.arrive, iV s.depart, iV s.line] 53)).ownsRow w.heap.size 53 4 (.slice (some ⟨w.heap.size, 0, none⟩) 1 1) 1 (encSt s) :=
  ⟨rfl, .inr ⟨w.heap.size, 1, _, rfl, Nat.le_refl _, heap_alloc_new _ _, Nat.le_refl _, by decide, rfl, rfl⟩⟩
set_option maxHeartbeats 8000000 in
set_option maxRecDepth 100000 in
theorem walk_any (N : Nat) (n : Net) (A : Option Addr) (c : Nat) (nx : List NsC) (o0 d : Nat) (t0 : Int) (w : World) (hN : NetP w N n) (hT : Tab w A nx) (hG : Good n) (hF : Formed n nx) (ho : o0 < n.offs.length) (hd : d < n.offs.length) (ht1 : 0 ≤ t0) (ht2 : t0 ≤ 3000000) :
    Calls Tryz.prog 47 #[.pointer (some ⟨N, 0, none⟩), .slice A nx.length c, iV o0, iV d, iV t0] w (WalkR w (wayR n nx d 19 o0 t0)) := by
  obtain ⟨i0, hi0, hz0, hz1, hz2⟩ := info_parts stInfo
  have HN := Lib.hid hN; clear hN
  have HT := Lib.hid hT; clear hT
  have HG := Lib.hid hG; clear hG
  have HF := Lib.hid hF; clear hF
  have hlen := HF.out.1
  have hoff12 := HG.out.few.2.1
  have HLEN := Lib.hid hlen; clear hlen
  go_enter Tryz.func47, Tryz.ntmps47
  go_wp2
  go_loopw [11, 12] (fun v i wr => ∃ (k o : Nat) (t : Int) (done : List St), k = done.length ∧ k ≤ 19 ∧ o < n.offs.length ∧ 0 ≤ t ∧ t ≤ 3000000 ∧ i = iV k ∧ Hid (wr.ownsRow w.heap.size 53 4 v (k + 1) ((done ++ [(⟨o, t, -1, -1⟩ : St)]).flatMap encSt)) ∧ Hid (Below w.heap.size w wr) ∧ Hid (wayR n nx d 19 o0 t0 = comb done (wayR n nx d (19 - k) o t))) (fun _ i _ => 20 - (intOf i).toNat)
  case atStart =>
    refine ⟨0, o0, t0, [], rfl, by omega, ho, ht1, ht2, rfl, own_st w ⟨o0, t0, -1, -1⟩, ba w _, ?_⟩
    show _ = _
    rw [comb_nil _ (fun h => wayR_nil n nx d 19 o0 t0 h)]
  case round =>
    obtain ⟨k, o, t, done, hk, hk19, hoo, htt1, htt2, rfl, HO, HB, HW⟩ := hrel
    obtain ⟨A2, c2, rfl⟩ := own_form HO.out
    obtain ⟨g, rfl, hg1, hg2, hfz, hcell⟩ := own_blk HO.out (by omega)
    have HK := Lib.hid hk; clear hk
    have cl : ∀ j v, (encSt (⟨o, t, -1, -1⟩ : St))[j]? = some v → wr.cell? ⟨g, k * 4 + j, none⟩ = some v := fun j v hj => by
      have h1 := flat_get encSt 4 encSt_len (done ++ [(⟨o, t, -1, -1⟩ : St)]) k j (by rw [HK.out]; simp) (by rcases Nat.lt_or_ge j 4 with h | h; exact h; rw [List.getElem?_eq_none (by rw [encSt_len]; exact h)] at hj; cases hj)
      refine hcell _ v (h1.trans ?_)
      have : (done ++ [(⟨o, t, -1, -1⟩ : St)])[k]'(by rw [HK.out]; simp) = ⟨o, t, -1, -1⟩ := by simp [HK.out]
      rw [this]
      exact hj
    have s0 : wr.cell? ⟨g, k * 4, none⟩ = some (iV o) := cl 0 _ rfl
    have s1 : wr.cell? ⟨g, k * 4 + 1, none⟩ = some (iV t) := cl 1 _ rfl
    have s2 : wr.cell? ⟨g, k * 4 + 2, none⟩ = some (iV (-1)) := cl 2 _ rfl
    have s3 : wr.cell? ⟨g, k * 4 + 3, none⟩ = some (iV (-1)) := cl 3 _ rfl
    have j1 : (0 : Int) ≤ (k : Int) := by omega
    have j2 : (k : Int) < ((k + 1 : Nat) : Int) := by omega
    clear cl hcell
    by_cases hod : o = d
    · subst hod
      have hR : Hid (wayR n nx o 19 o0 t0 = (0, done ++ [(⟨o, t, -1, -1⟩ : St)])) := by show _ = _; rw [HW.out, wayR_at]; rfl
      have hlk : Hid (k + 1 = (done ++ [(⟨o, t, -1, -1⟩ : St)]).length) := by show _ = _; rw [HK.out]; simp
      go_wp2
      go_ret
      unfold WalkR
      rw [hR.out]
      refine ⟨HB.out, .inl ⟨rfl, some ⟨g, 0, none⟩, c2, ?_, ?_⟩⟩
      · rw [← hlk.out]; rfl
      · rw [← hlk.out]; exact HO.out
    · have hne : ((o : Int) != (d : Int)) = true := by simpa using fun h => hod (by omega)
      have hne2 : ((o : Int) == (d : Int)) = false := by simpa using fun h => hod (by omega)
      obtain ⟨r, hr, hrl, hrf⟩ := HF.out.2 o hoo
      have HRF := Lib.hid hrf; clear hrf
      have HRL := Lib.hid hrl; clear hrl
      obtain ⟨hrlt, hre⟩ := List.getElem?_eq_some_iff.1 hr
      have HTr := Lib.hid (HT.out.below HB.out)
      obtain ⟨nb, no, hnA, -, hnc⟩ := HTr.out.rd.get (i := o) (by rw [List.length_map]; exact hrlt)
      have x1 : wr.cell? ⟨nb, no + o, none⟩ = some (slI r) := hnc o _ (by rw [List.getElem?_map, hr]; rfl)
      obtain ⟨rb, ro, hrA, -, hrc⟩ := (HTr.out.row r (List.mem_of_getElem? hr)).1.get (i := d) (by rw [List.length_map, HRL.out]; exact hd)
      have hdl : d < r.ns.length := by rw [HRL.out]; exact hd
      have x2 : wr.cell? ⟨rb, ro + d, none⟩ = some (iV r.ns[d]) := hrc d _ (by simp [hdl])
      have hl : r.ns[d] = nxAt nx o d := by unfold nxAt; simp [List.getD, hr, hdl]
      have hlr := HRF.out _ (List.getElem_mem hdl)
      rw [hl] at x2 hlr
      have HLR := Lib.hid hlr
      have j3 : (o : Int) < (nx.length : Int) := by have := HLEN.out; omega
      have j4 : (d : Int) < (r.ns.length : Int) := by omega
      have j5 : (0 : Int) ≤ (o : Int) := by omega
      have j6 : (0 : Int) ≤ (d : Int) := by omega
      have HNA := Lib.hid hnA
      unfold slI at x1
      rw [hrA] at x1
      clear hl hlr hnc hrc hre hr hrA hrlt
      subst hnA
      go_upto_region 7 with fail
      clear x1 x2
      by_cases hno : nxAt nx o d = -1
      · have hR : Hid (wayR n nx d 19 o0 t0 = (170, [])) := by show _ = _; rw [HW.out, wayR_no n nx d _ o t hod hno]; rfl
        have HNO := Lib.hid hno
        rw [hno]
        clear hno
        go_wp2
        refine ⟨rfl, ?_⟩
        unfold WalkR
        rw [hR.out]
        exact ⟨HB.out, .inr ⟨by decide, rfl⟩⟩
      · have hno1 : (nxAt nx o d == -1) = false := by simpa using hno
        obtain ⟨hl0, hl1, hl2⟩ := HLR.out.resolve_left hno
        obtain ⟨li, hli⟩ : ∃ li : Nat, (li : Int) = nxAt nx o d := ⟨(nxAt nx o d).toNat, by omega⟩
        have HO1 : Hid ((wr.setCell ⟨g, k * 4 + 3, none⟩ (iV (nxAt nx o d))).ownsRow w.heap.size 53 4 (.slice (some ⟨g, 0, none⟩) (k + 1) c2) (k + 1) ((done ++ [(⟨o, t, -1, nxAt nx o d⟩ : St)]).flatMap encSt)) := by
          have h1 := own_store HO.out (k * 4 + 3) (iV (nxAt nx o d))
          have h2 := (flat_set (l := done) (s := ⟨0, 0, 0, nxAt nx o d⟩) (x := ⟨o, t, -1, -1⟩)).1
          rw [← HK.out] at h2
          rw [h2] at h1
          exact h1
        have HB1 : Hid (Below w.heap.size w (wr.setCell ⟨g, k * 4 + 3, none⟩ (iV (nxAt nx o d)))) := HB.out.setCell (p := ⟨g, k * 4 + 3, none⟩) hg1 _
        have y0 : (wr.setCell ⟨g, k * 4 + 3, none⟩ (iV (nxAt nx o d))).cell? ⟨g, k * 4, none⟩ = some (iV o) := by rw [World.cell?_setCell_other _ _ _ _ (by simp)]; exact s0
        have y1 : (wr.setCell ⟨g, k * 4 + 3, none⟩ (iV (nxAt nx o d))).cell? ⟨g, k * 4 + 1, none⟩ = some (iV t) := by rw [World.cell?_setCell_other _ _ _ _ (by simp)]; exact s1
        have y2 : (wr.setCell ⟨g, k * 4 + 3, none⟩ (iV (nxAt nx o d))).cell? ⟨g, k * 4 + 2, none⟩ = some (iV (-1)) := by rw [World.cell?_setCell_other _ _ _ _ (by simp)]; exact s2
        have yf : (wr.setCell ⟨g, k * 4 + 3, none⟩ (iV (nxAt nx o d))).frozen? ⟨g, k * 4 + 2, none⟩ = false := by rw [World.frozen?_setCell]; exact hfz _
        have hg3 : g < (wr.setCell ⟨g, k * 4 + 3, none⟩ (iV (nxAt nx o d))).heap.size := World.block_lt_of_cell? _ _ y0
        have hf3 := hfz (k * 4 + 3)
        go_upto_region 10 with fail
        clear s0 s1 s2 s3 hf3 HO HB HTr hfz HNA
        change Code.wp _ _ _ _ (wr.setCell ⟨g, k * 4 + 3, none⟩ (iV (nxAt nx o d)))
        generalize (wr.setCell ⟨g, k * 4 + 3, none⟩ (iV (nxAt nx o d))) = W1 at *
        have HN1 := Lib.hid (HN.out.below HB1.out)
        obtain ⟨ci, hci, hcg, hcb⟩ := HG.out.calAt hoo
        obtain ⟨-, p1, p2, m1, m2⟩ := HG.out.off _ (List.mem_of_getElem? (offAt_get hoo))
        have hli' : (nxAt nx o d).toNat = li := by omega
        rw [hli'] at hl2
        have hlg := linAt_get (n := n) (l := li) (by omega)
        obtain ⟨-, ⟨q1, q2⟩, a1, a2, v1, v2⟩ := HG.out.lin _ (List.mem_of_getElem? hlg)
        have hrr := mul_small p1 p2 m1 m2
        have hrd : -100000000 ≤ readyR (offAt n o) t ∧ readyR (offAt n o) t ≤ 100000000 := by unfold readyR; omega
        have HRD := Lib.hid hrd; clear hrd hrr
        have HDP : Hid (Calls Tryz.prog 90 #[.pointer (some ⟨N, 0, none⟩), iV li, iV (readyR (offAt n o) t)] W1 fun e w' => True) := (depart_any N n li o ci _ _ _ (readyR (offAt n o) t) W1 HN1.out hlg hl2 (offAt_get hoo) hci hcg hcb a1 a2).mono (fun _ _ _ => trivial)
        have HLI := Lib.hid hli
        have HARG := Lib.hid (And.intro hlg (And.intro hl2 (And.intro hci (And.intro hcg (And.intro hcb (And.intro a1 a2))))))
        have HPM := Lib.hid (And.intro (And.intro p1 p2) (And.intro m1 m2))
        have HNX : Hid ((nxAt nx o d).toNat = li) := hli'
        rw [← hli]
        clear hli hlg hl2 hci hcg hcb a1 a2 p1 p2 m1 m2 hli' HDP hno1
        have HSw : Hid (∀ w', Below W1.heap.size W1 w' → w'.cell? ⟨g, k * 4, none⟩ = some (iV (o : Int)) ∧ w'.cell? ⟨g, k * 4 + 1, none⟩ = some (iV t)) := fun w' hb =>
          ⟨(hb.cell (p := ⟨g, _, none⟩) hg3).trans y0, (hb.cell (p := ⟨g, _, none⟩) hg3).trans y1⟩
        have HYF := Lib.hid (And.intro y2 yf)
        obtain ⟨D1, D2, hD⟩ : ∃ D1 D2, departR (calAt n o) (linAt n li) (readyR (offAt n o) t) = (D1, D2) := ⟨_, _, rfl⟩
        have HD := Lib.hid hD; clear hD
        by_cases hE : D2 = 0
        · subst hE
          go_region_held3 (fun w' => w'.cell? ⟨g, k * 4, none⟩ = some (iV (o : Int)) ∧ w'.cell? ⟨g, k * 4 + 1, none⟩ = some (iV t)) (first | (with_reducible exact HSw.out _ (b_drew (Below.refl _ _))) | (with_reducible exact HSw.out _ HC1.out) | (with_reducible exact HSw.out _ HC2.out) | (exact ⟨(World.cell?_setCell_other _ _ _ _ (by simp)).trans (HSw.out _ HC2.out).1, (World.cell?_setCell_other _ _ _ _ (by simp)).trans (HSw.out _ HC2.out).2⟩)) (first
            | (go_at_call 91; refine (ready_any N n o (offAt n o) t _ (HN1.out.drewN 1) (offAt_get hoo) HPM.out.1.1 HPM.out.1.2 HPM.out.2.1 HPM.out.2.2 (by omega) (by omega)).mono ?_; rintro e w2 ⟨rfl, hb⟩; have HC1 := Lib.hid (bdr hb); clear hb)
            | (go_at_call 90; refine (depart_any N n li o ci _ _ _ (readyR (offAt n o) t) _ (HN1.out.below HC1.out) HARG.out.1 HARG.out.2.1 (offAt_get hoo) HARG.out.2.2.1 HARG.out.2.2.2.1 HARG.out.2.2.2.2.1 HARG.out.2.2.2.2.2.1 HARG.out.2.2.2.2.2.2).mono ?_; rintro e w3 ⟨rfl, hb⟩; rw [HD.out]; have HC2 := Lib.hid (bt HC1.out hb); clear hb; have y3 : w3.cell? ⟨g, k * 4 + 2, none⟩ = some (iV (-1)) := (HC2.out.cell (p := ⟨g, _, none⟩) hg3).trans HYF.out.1; have yf3 : w3.frozen? ⟨g, k * 4 + 2, none⟩ = false := (HC2.out.frozen (p := ⟨g, _, none⟩) hg3).trans HYF.out.2)
            | (go_at_call 54; refine (must_yes D1 _).mono ?_; rintro e w4 ⟨rfl, rfl⟩)
            | fail)
          have HO2 : Hid ((w3.setCell ⟨g, k * 4 + 2, none⟩ (iV D1)).ownsRow w.heap.size 53 4 (.slice (some ⟨g, 0, none⟩) (k + 1) c2) (k + 1) ((done ++ [(⟨o, t, D1, nxAt nx o d⟩ : St)]).flatMap encSt)) := by
            have h1 := own_store (own_below HO1.out HC2.out) (k * 4 + 2) (iV D1)
            have h2 := (flat_set (l := done) (s := ⟨0, 0, D1, 0⟩) (x := ⟨o, t, -1, nxAt nx o d⟩)).2
            rw [← HK.out] at h2
            rw [h2] at h1
            exact h1
          have HB2 : Hid (Below w.heap.size w (w3.setCell ⟨g, k * 4 + 2, none⟩ (iV D1))) := (bt HB1.out HC2.out).setCell (p := ⟨g, k * 4 + 2, none⟩) hg1 _
          clear y0 y1 y2 yf y3 yf3 HO1 HYF HSw
          go_upto_region 11 with fail
          change Code.wp _ _ _ _ (w3.setCell ⟨g, k * 4 + 2, none⟩ (iV D1))
          generalize (w3.setCell ⟨g, k * 4 + 2, none⟩ (iV D1)) = W2 at *
          have HN2 := Lib.hid (HN.out.below HB2.out)
          have hE0 : Hid ((departR (calAt n o) (linAt n (nxAt nx o d).toNat) (readyR (offAt n o) t)) = (D1, 0)) := by show _ = _; rw [HNX.out]; exact HD.out
          by_cases hk2 : k = 19
          · have hR : Hid (wayR n nx d 19 o0 t0 = (170, [])) := by
              show _ = _
              rw [HW.out, show 19 - k = 0 by omega, wayR_last n nx d o t hod hno (by rw [hE0.out])]
              rfl
            subst hk2
            go_wp2
            refine ⟨rfl, ?_⟩
            unfold WalkR
            rw [hR.out]
            exact ⟨HB2.out, .inr ⟨by decide, rfl⟩⟩
          · obtain ⟨f, hf⟩ : ∃ f, 19 - k = f + 1 := ⟨18 - k, by omega⟩
            have hR : Hid (wayR n nx d 19 o0 t0 = comb (done ++ [(⟨o, t, D1, nxAt nx o d⟩ : St)]) (wayR n nx d f (linAt n li).to.toNat (D1 + (linAt n li).travel))) := by
              show _ = _
              rw [HW.out, hf, wayR_next n nx d f o t hod hno (by rw [hE0.out]) done, hE0.out, HNX.out]
            have HFK : Hid (19 - (k + 1) = f) := by show _ = _; omega
            have k20 : ((k : Int) + 1 == 20) = false := by simp; omega
            have k20' : ¬ (k : Int) + 1 = 20 := by omega
            obtain ⟨hlt, lb, lo, hlA, hlb, hl0', hlc⟩ := elem_at encLin_len HN2.out.net.lins HARG.out.1 (by omega)
            have n4 : W2.cell? ⟨N, 4, none⟩ = some (.slice n.linA n.lins.length n.linC) := HN2.out.box 4 _ rfl
            rw [hlA] at n4
            have c0 : W2.cell? ⟨lb, lo + li * 6, none⟩ = some (sV (linAt n li).name) := hl0' _ rfl
            have c1 : W2.cell? ⟨lb, lo + li * 6 + 1, none⟩ = some (iV (linAt n li).frm) := hlc 1 _ rfl
            have c2' : W2.cell? ⟨lb, lo + li * 6 + 2, none⟩ = some (iV (linAt n li).to) := hlc 2 _ rfl
            have c3 : W2.cell? ⟨lb, lo + li * 6 + 3, none⟩ = some (iV (linAt n li).at_) := hlc 3 _ rfl
            have c4 : W2.cell? ⟨lb, lo + li * 6 + 4, none⟩ = some (iV (linAt n li).travel) := hlc 4 _ rfl
            have c5 : W2.cell? ⟨lb, lo + li * 6 + 5, none⟩ = some (iV (linAt n li).load) := hlc 5 _ rfl
            have z1 : (0 : Int) ≤ (li : Int) := by omega
            have z2 : (li : Int) < (n.lins.length : Int) := by omega
            clear hf hl0' hlc hlA hlb
            go_upto_region 14 with fail
            have HO3 : Hid ((W2.alloc (.cells #[sV (linAt n li).name, iV (linAt n li).frm, iV (linAt n li).to, iV (linAt n li).at_, iV (linAt n li).travel, iV (linAt n li).load] 116)).ownsRow w.heap.size 53 4 (.slice (some ⟨g, 0, none⟩) (k + 1) c2) (k + 1) ((done ++ [(⟨o, t, D1, nxAt nx o d⟩ : St)]).flatMap encSt)) := HO2.out.alloc _
            have HB3 : Hid (Below w.heap.size w (W2.alloc (.cells #[sV (linAt n li).name, iV (linAt n li).frm, iV (linAt n li).to, iV (linAt n li).at_, iV (linAt n li).travel, iV (linAt n li).load] 116))) := HB2.out.alloc HB2.out.size _
            have hLN : (W2.alloc (.cells #[sV (linAt n li).name, iV (linAt n li).frm, iV (linAt n li).to, iV (linAt n li).at_, iV (linAt n li).travel, iV (linAt n li).load] 116)).heap[W2.heap.size]? = some (.cells #[sV (linAt n li).name, iV (linAt n li).frm, iV (linAt n li).to, iV (linAt n li).at_, iV (linAt n li).travel, iV (linAt n li).load] 116) := heap_alloc_new _ _
            have b2 : (W2.alloc (.cells #[sV (linAt n li).name, iV (linAt n li).frm, iV (linAt n li).to, iV (linAt n li).at_, iV (linAt n li).travel, iV (linAt n li).load] 116)).cell? ⟨W2.heap.size, 2, none⟩ = some (iV (linAt n li).to) := cell_of_row _ _ 2 _ _ _ hLN
            have b4 : (W2.alloc (.cells #[sV (linAt n li).name, iV (linAt n li).frm, iV (linAt n li).to, iV (linAt n li).at_, iV (linAt n li).travel, iV (linAt n li).load] 116)).cell? ⟨W2.heap.size, 4, none⟩ = some (iV (linAt n li).travel) := cell_of_row _ _ 4 _ _ _ hLN
            have hX3 : w.heap.size ≤ (W2.alloc (.cells #[sV (linAt n li).name, iV (linAt n li).frm, iV (linAt n li).to, iV (linAt n li).at_, iV (linAt n li).travel, iV (linAt n li).load] 116)).heap.size := HB3.out.size
            change Code.wp _ _ _ _ (W2.alloc (.cells #[sV (linAt n li).name, iV (linAt n li).frm, iV (linAt n li).to, iV (linAt n li).at_, iV (linAt n li).travel, iV (linAt n li).load] 116))
            generalize (W2.alloc (.cells #[sV (linAt n li).name, iV (linAt n li).frm, iV (linAt n li).to, iV (linAt n li).at_, iV (linAt n li).travel, iV (linAt n li).load] 116)) = W3 at *
            generalize W2.heap.size = X at *
            obtain ⟨g', hg', -, -, -, hcell3⟩ := own_blk HO3.out (by omega)
            have hgg : g = g' := by injection hg' with h; injection h
            have g2' : W3.cell? ⟨g, k * 4 + 2, none⟩ = some (iV D1) := by
              rw [hgg]
              have h1 := flat_get encSt 4 encSt_len (done ++ [(⟨o, t, D1, nxAt nx o d⟩ : St)]) k 2 (by rw [HK.out]; simp) (by omega)
              refine hcell3 _ _ (h1.trans ?_)
              have : (done ++ [(⟨o, t, D1, nxAt nx o d⟩ : St)])[k]'(by rw [HK.out]; simp) = ⟨o, t, D1, nxAt nx o d⟩ := by simp [HK.out]
              rw [this]
              rfl
            have hDB : readyR (offAt n o) t ≤ D1 ∧ D1 ≤ readyR (offAt n o) t + 90000 ∧ 0 ≤ readyR (offAt n o) t ∧ readyR (offAt n o) t ≤ 2000000 := by
              have h1 := HD.out
              unfold departR at h1
              by_cases hok : tOk (readyR (offAt n o) t) = true
              · rw [if_pos hok] at h1
                have h2 := firstR_in HARG.out.2.2.2.2.2.1 HARG.out.2.2.2.2.2.2 h1
                unfold tOk at hok
                simp only [Bool.and_eq_true, decide_eq_true_eq] at hok
                omega
              · rw [if_neg hok] at h1
                have := (Prod.mk.inj h1).2
                omega
            obtain ⟨hd1, hd2, hd3, hd4⟩ := hDB
            obtain ⟨tt, htt⟩ : ∃ m : Nat, (m : Int) = (linAt n li).to := ⟨(linAt n li).to.toNat, by omega⟩
            have htn : (linAt n li).to.toNat = tt := by omega
            have httl : tt < n.offs.length := by omega
            rw [htn] at hR
            rw [← htt] at b2
            have HTT := Lib.hid htt
            generalize (linAt n li).travel = tv at *
            have e1 : 0 ≤ D1 + tv := by omega
            have e2 : D1 + tv ≤ 3000000 := by omega
            have r1 : IntKind.i64.wrap (D1 + tv) = D1 + tv := IntWalk.i64_in _ (by omega)
            clear hd1 hd2 hd3 hd4 htt htn hcell3 hg' hgg hLN n4 c0 c1 c2' c3 c4 c5 HO2 HB2 q1 q2
            go_region_law ((go_must (refine step_app (by rfl) _ _ _ _ (by rfl) w.heap.size 53 i0 _ 4 32 Tryz.underlying49 hi0 hz0 hz1 hz2 (by rfl) _ (k + 1) _ (by rfl) (HO3.out.drew.alloc _) _ (by rfl) 1 (encSt ⟨tt, D1 + tv, -1, -1⟩) (src_k 4 Tryz.underlying49 (Rd.new _ (encSt ⟨tt, D1 + tv, -1, -1⟩) _) rfl (by simp [encSt, Value.oneCell'])) (by unfold maxLen; omega) (by omega) (by simp; omega) ?_); intro A4 c4 w4 ho hgr _; have HO4 := Lib.hid ho; have HB4 := Lib.hid (app_below (b_drew HB3.out |>.alloc HB3.out.size _) (Nat.le_refl _) (HO3.out.drew.alloc _) (Nat.le_refl _) hgr); clear ho hgr))
            all_goals
              clear r1 g2' b2 b4
              go_wp2
              go_roundw
              case rel =>
                refine ⟨k + 1, tt, D1 + tv, done ++ [(⟨o, t, D1, nxAt nx o d⟩ : St)], by rw [List.length_append, ← HK.out]; rfl, by omega, httl, e1, e2, by go_num, ?_, HB4, ?_⟩
                · show World.ownsRow _ _ _ _ _ _ _
                  rw [List.flatMap_append (xs := done ++ _)]
                  exact HO4.out
                · show _ = _
                  rw [hR.out, HFK.out]
              case measure => simp [intOf]; omega
        · have hE0 : Hid ((departR (calAt n o) (linAt n (nxAt nx o d).toNat) (readyR (offAt n o) t)) = (D1, D2)) := by show _ = _; rw [HNX.out]; exact HD.out
          have hR : Hid (wayR n nx d 19 o0 t0 = (D2, [])) := by
            show _ = _
            rw [HW.out, wayR_bad n nx d _ o t hod hno (by rw [hE0.out]; exact hE), hE0.out]
            unfold comb
            rw [if_neg hE]
          refine wp_region_any (by kernel_rfl) ?_
          change wpAny _ _ _ _ _ _ _ (World.drew _)
          refine wpAny_take (i := 0) (v := ?_) rfl (by kernel_rfl) (by kernel_rfl) (by kernel_rfl) (fun _ _ _ h => h) (Or.inl ⟨by rfl, ?_⟩) ?_
          rotate_left
          · (intro w; go_simp; (try with_reducible rfl))
          refine wpAny_take (i := 1) (v := ?_) rfl (by kernel_rfl) (by kernel_rfl) (by kernel_rfl) (fun _ _ _ h => h) (Or.inl ⟨by rfl, ?_⟩) ?_
          rotate_left
          · (intro w; go_simp; (try with_reducible rfl))
          refine wpAny_take (i := 2) (v := ?_) rfl (by kernel_rfl) (by kernel_rfl) (by kernel_rfl) (fun _ _ _ h => h) (Or.inl ⟨by rfl, ?_⟩) ?_
          rotate_left
          · (intro w; go_simp; (try with_reducible rfl))
          refine wpAny_take (i := 3) (v := ?_) rfl (by kernel_rfl) (by kernel_rfl) (by kernel_rfl) (fun _ _ _ h => h) (Or.inl ⟨by rfl, ?_⟩) ?_
          rotate_left
          · (intro w; go_simp; (try with_reducible rfl))
          refine wpAny_take (i := 4) (v := ?_) rfl (by kernel_rfl) (by kernel_rfl) (by kernel_rfl) (fun _ _ _ h => h) (Or.inl ⟨by rfl, ?_⟩) ?_
          rotate_left
          · (intro w; go_simp; (try with_reducible rfl))
          refine wpAny_take (i := 5) (v := ?_) rfl (by kernel_rfl) (by kernel_rfl) (by kernel_rfl) (fun _ _ _ h => h) (Or.inl ⟨by rfl, ?_⟩) ?_
          rotate_left
          · (intro w; go_simp; (try with_reducible rfl))
          refine wpAny_take (i := 6) (v := ?_) rfl (by kernel_rfl) (by kernel_rfl) (by kernel_rfl) (fun _ _ _ h => h) (Or.inl ⟨by rfl, ?_⟩) ?_
          rotate_left
          · (intro w; go_simp; (try with_reducible rfl))
          refine wpAny_take (i := 8) (v := ?_) rfl (by kernel_rfl) (by kernel_rfl) (by kernel_rfl) (fun _ _ _ h => h) (Or.inl ⟨by rfl, ?_⟩) ?_
          rotate_left
          · (intro w; go_simp; (try with_reducible rfl))
          refine wpAny_take (i := 9) (v := ?_) rfl (by kernel_rfl) (by kernel_rfl) (by kernel_rfl) (fun _ _ _ h => h) (Or.inl ⟨by rfl, ?_⟩) ?_
          rotate_left
          · (intro w; go_simp; (try with_reducible rfl))
          refine wpAny_take (i := 10) (v := ?_) rfl (by kernel_rfl) (by kernel_rfl) (by kernel_rfl) (fun _ _ _ h => h) (Or.inl ⟨by rfl, ?_⟩) ?_
          rotate_left
          · (intro w; go_simp; (try with_reducible rfl))
          refine wpAny_ready (rs := [7, 11]) (by kernel_rfl) (by simp) ?_
          refine AllReady.cons rfl (fun K hK => ?ra) (AllReady.cons rfl (fun K hK => ?rb) AllReady.nil)
          case ra =>
            go_simp
            refine hK _ _ ?_
            clear hK K
            refine wpAny_ready (rs := [11]) (by kernel_rfl) (by simp) ?_
            refine AllReady.cons rfl (fun K hK => ?_) AllReady.nil
            go_simp
            refine hK _ _ ?_
            clear hK K
            refine wpAny_ready (rs := [12]) (by kernel_rfl) (by simp) ?_
            refine AllReady.cons rfl (fun K hK => ?_) AllReady.nil
            go_simp
            refine (ready_any N n o (offAt n o) t _ (HN1.out.drewN 1) (offAt_get hoo) HPM.out.1.1 HPM.out.1.2 HPM.out.2.1 HPM.out.2.2 (by omega) (by omega)).mono ?_
            rintro e w2 ⟨rfl, hb⟩
            have HC1 := Lib.hid (bdr hb); clear hb
            go_wp2_with fail
            refine wpAny_ready (rs := [13]) (by kernel_rfl) (by simp) ?_
            refine AllReady.cons rfl (fun K hK => ?_) AllReady.nil
            go_simp
            refine (depart_any N n li o ci _ _ _ (readyR (offAt n o) t) _ (HN1.out.below HC1.out) HARG.out.1 HARG.out.2.1 (offAt_get hoo) HARG.out.2.2.1 HARG.out.2.2.2.1 HARG.out.2.2.2.2.1 HARG.out.2.2.2.2.2.1 HARG.out.2.2.2.2.2.2).mono ?_
            rintro e w3 ⟨rfl, hb⟩
            rw [HD.out]
            have HC2 := Lib.hid (bt HC1.out hb); clear hb
            go_wp2_with fail
            refine wpAny_take (i := 14) (v := ?_) rfl (by kernel_rfl) (by kernel_rfl) (by kernel_rfl) (fun _ _ _ h => h) (Or.inl ⟨by rfl, ?_⟩) ?_
            rotate_left
            · (intro w; go_simp; (try with_reducible rfl))
            refine wpAny_take (i := 15) (v := ?_) rfl (by kernel_rfl) (by kernel_rfl) (by kernel_rfl) (fun _ _ _ h => h) (Or.inl ⟨by rfl, ?_⟩) ?_
            rotate_left
            · (intro w; go_simp; (try with_reducible rfl))
            refine wpAny_ready (rs := [16]) (by kernel_rfl) (by simp) ?_
            refine AllReady.cons rfl (fun K hK => ?_) AllReady.nil
            go_simp
            refine (must_no D1 D2 _ hE).mono ?_
            rintro e w4 ⟨rfl, rfl⟩
            go_simp
            refine ⟨rfl, ?_⟩
            unfold WalkR
            rw [hR.out]
            exact ⟨bt HB1.out HC2.out, .inr ⟨hE, rfl⟩⟩
          case rb =>
            go_simp
            refine hK _ _ ?_
            clear hK K
            refine wpAny_ready (rs := [7]) (by kernel_rfl) (by simp) ?_
            refine AllReady.cons rfl (fun K hK => ?_) AllReady.nil
            go_simp
            refine hK _ _ ?_
            clear hK K
            refine wpAny_ready (rs := [12]) (by kernel_rfl) (by simp) ?_
            refine AllReady.cons rfl (fun K hK => ?_) AllReady.nil
            go_simp
            refine (ready_any N n o (offAt n o) t _ (HN1.out.drewN 1) (offAt_get hoo) HPM.out.1.1 HPM.out.1.2 HPM.out.2.1 HPM.out.2.2 (by omega) (by omega)).mono ?_
            rintro e w2 ⟨rfl, hb⟩
            have HC1 := Lib.hid (bdr hb); clear hb
            go_wp2_with fail
            refine wpAny_ready (rs := [13]) (by kernel_rfl) (by simp) ?_
            refine AllReady.cons rfl (fun K hK => ?_) AllReady.nil
            go_simp
            refine (depart_any N n li o ci _ _ _ (readyR (offAt n o) t) _ (HN1.out.below HC1.out) HARG.out.1 HARG.out.2.1 (offAt_get hoo) HARG.out.2.2.1 HARG.out.2.2.2.1 HARG.out.2.2.2.2.1 HARG.out.2.2.2.2.2.1 HARG.out.2.2.2.2.2.2).mono ?_
            rintro e w3 ⟨rfl, hb⟩
            rw [HD.out]
            have HC2 := Lib.hid (bt HC1.out hb); clear hb
            go_wp2_with fail
            refine wpAny_take (i := 14) (v := ?_) rfl (by kernel_rfl) (by kernel_rfl) (by kernel_rfl) (fun _ _ _ h => h) (Or.inl ⟨by rfl, ?_⟩) ?_
            rotate_left
            · (intro w; go_simp; (try with_reducible rfl))
            refine wpAny_take (i := 15) (v := ?_) rfl (by kernel_rfl) (by kernel_rfl) (by kernel_rfl) (fun _ _ _ h => h) (Or.inl ⟨by rfl, ?_⟩) ?_
            rotate_left
            · (intro w; go_simp; (try with_reducible rfl))
            refine wpAny_ready (rs := [16]) (by kernel_rfl) (by simp) ?_
            refine AllReady.cons rfl (fun K hK => ?_) AllReady.nil
            go_simp
            refine (must_no D1 D2 _ hE).mono ?_
            rintro e w4 ⟨rfl, rfl⟩
            go_simp
            refine ⟨rfl, ?_⟩
            unfold WalkR
            rw [hR.out]
            exact ⟨bt HB1.out HC2.out, .inr ⟨hE, rfl⟩⟩
end Go.Proofs.YtjpabeoflhkfkaaGreatDoor
namespace Go.Proofs.YtjpabeoflhkfkaaGreatDoor
open Go.RowKit

end Go.Proofs.YtjpabeoflhkfkaaGreatDoor
namespace Go.Proofs.YtjpabeoflhkfkaaGreatDoor
open Go.RowKit

/-- An entry of the table names no line, or one that leaves from here. -/
def EntryOk (n : Net) (o : Nat) (l : Int) : Prop := l = -1 ∨ 0 ≤ l ∧ l < n.lins.length ∧ (linAt n l.toNat).frm = o
theorem formed_iff (n : Net) (nx : List NsC) : Formed n nx ↔ nx.length = n.offs.length ∧ ∀ o r, nx[o]? = some r → r.ns.length = n.offs.length ∧ ∀ l ∈ r.ns, EntryOk n o l := by
  unfold Formed EntryOk
  constructor
  · rintro ⟨h1, h2⟩
    refine ⟨h1, fun o r hr => ?_⟩
    obtain ⟨hlt, -⟩ := List.getElem?_eq_some_iff.1 hr
    obtain ⟨r', hr', h3⟩ := h2 o (by omega)
    rw [hr] at hr'
    cases hr'
    exact h3
  · rintro ⟨h1, h2⟩
    refine ⟨h1, fun o ho => ?_⟩
    exact ⟨nx[o]'(by omega), List.getElem?_eq_getElem _, h2 o _ (List.getElem?_eq_getElem _)⟩
/-- What formed answers. -/
noncomputable def formB (n : Net) (nx : List NsC) : Bool := @decide (Formed n nx) (Classical.propDecidable _)
theorem formB_true {n : Net} {nx : List NsC} : formB n nx = true ↔ Formed n nx := by unfold formB; simp
theorem formB_false {n : Net} {nx : List NsC} (h : ¬ Formed n nx) : formB n nx = false := by rw [Bool.eq_false_iff]; exact fun h2 => h (formB_true.1 h2)

set_option maxHeartbeats 4000000 in
set_option maxRecDepth 100000 in
theorem formed_any (N : Nat) (n : Net) (A : Option Addr) (c : Nat) (nx : List NsC) (w : World) (hN : NetP w N n) (hT : Tab w A nx) (hx : nx.length ≤ maxLen) (_hf1 : n.offs.length ≤ maxLen) (_hf2 : n.lins.length ≤ maxLen) :
    Calls Tryz.prog 46 #[.pointer (some ⟨N, 0, none⟩), .slice A nx.length c] w fun e w' => e = .returned (.bool (formB n nx)) ∧ Below w.heap.size w w' := by
  have n3 : w.cell? ⟨N, 3, none⟩ = some (.slice n.offA n.offs.length n.offC) := hN.box 3 _ rfl
  have n4 : w.cell? ⟨N, 4, none⟩ = some (.slice n.linA n.lins.length n.linC) := hN.box 4 _ rfl
  have HN := Lib.hid hN; clear hN
  have HT := Lib.hid hT; clear hT
  unfold maxLen at hx _hf1 _hf2
  by_cases hlen : nx.length = n.offs.length
  · have i1 : ((nx.length : Int) != (n.offs.length : Int)) = false := by simp; omega
    have i1' : ((nx.length : Int) == (n.offs.length : Int)) = true := by simp; omega
    have HLEN := Lib.hid hlen; clear hlen
    go_enter Tryz.func46, Tryz.ntmps46
    go_wp2
    go_loopw [19] (fun i wr => ∃ k q : Nat, k ≤ nx.length ∧ i = iV k ∧ wr = w.drewN q ∧ Hid (∀ o r, o < k → nx[o]? = some r → r.ns.length = n.offs.length ∧ ∀ l ∈ r.ns, EntryOk n o l)) (fun i _ => nx.length + 1 - (intOf i).toNat)
    case atStart => exact ⟨0, 0, by omega, rfl, rfl, fun o r h => by omega⟩
    case round =>
      obtain ⟨k, q, hk, rfl, rfl, HS⟩ := hrel
      have j0 : (0 : Int) ≤ (k : Int) := by omega
      by_cases hlt : k < nx.length
      · have j1 : (k : Int) < (nx.length : Int) := by omega
        have hr : nx[k]? = some nx[k] := List.getElem?_eq_getElem _
        generalize nx[k] = r at hr
        obtain ⟨ns, rA, rc⟩ := r
        have HTr : Hid (Rd w rA (ns.map iV) ∧ (∀ n ∈ ns, I64 n) ∧ ns.length ≤ maxLen) := HT.out.row _ (List.mem_of_getElem? hr)
        obtain ⟨nb, no, hnA, -, hnc⟩ := HT.out.rd.get (i := k) (by rw [List.length_map]; exact hlt)
        have x1 : w.cell? ⟨nb, no + k, none⟩ = some (.slice rA ns.length rc) := hnc k _ (by rw [List.getElem?_map, hr]; rfl)
        have HNA := Lib.hid hnA
        have HRr := Lib.hid hr; clear hr hnc
        subst hnA
        have hrm := HTr.out.2.2
        unfold maxLen at hrm
        by_cases hrl : ns.length = n.offs.length
        · have i2 : ((ns.length : Int) != (n.offs.length : Int)) = false := by simp; omega
          have i2' : ((ns.length : Int) == (n.offs.length : Int)) = true := by simp; omega
          have HRL := Lib.hid hrl; clear hrl
          go_wp2
          go_loopw [34] (fun i wr => ∃ m p : Nat, m ≤ ns.length ∧ i = iV m ∧ wr = w.drewN p ∧ Hid (∀ j l, j < m → ns[j]? = some l → EntryOk n k l)) (fun i _ => ns.length + 1 - (intOf i).toNat)
          case atStart => exact ⟨0, _, by omega, rfl, rfl, fun o r h => by omega⟩
          case round =>
            obtain ⟨m, p, hm, rfl, rfl, HQ⟩ := hrel
            have m0 : (0 : Int) ≤ (m : Int) := by omega
            by_cases hmt : m < ns.length
            · have m1 : (m : Int) < (ns.length : Int) := by omega
              have hl : ns[m]? = some ns[m] := List.getElem?_eq_getElem _
              obtain ⟨rb, ro, hrA, -, hrc⟩ := HTr.out.1.get (i := m) (by rw [List.length_map]; exact hmt)
              have x2 : w.cell? ⟨rb, ro + m, none⟩ = some (iV ns[m]) := hrc m _ (by simp [hmt])
              generalize ns[m] = l at hl x2
              have HL := Lib.hid hl; clear hl hrc
              have HRA := Lib.hid hrA
              subst hrA
              have HNO : Hid (¬ EntryOk n k l → formB n nx = false) := fun hno => formB_false (fun h => hno ((((formed_iff n nx).1 h).2 k _ HRr.out).2 l (List.mem_of_getElem? HL.out)))
              have HYES : Hid (EntryOk n k l → ∀ j l, j < m + 1 → ns[j]? = some l → EntryOk n k l) := fun hy j l' hj hl' => by
                rcases Nat.lt_or_ge j m with h | h
                · exact HQ.out j l' h hl'
                · obtain rfl : j = m := by omega
                  rw [HL.out] at hl'
                  cases hl'
                  exact hy
              by_cases hm1 : l = -1
              · subst hm1
                go_wp2
                go_roundw
                case rel => exact ⟨m + 1, _, by omega, by go_num, rfl, HYES.out (.inl rfl)⟩
                case measure => simp [intOf]; omega
              · have hm2 : (l != -1) = true := by simpa using hm1
                have hm3 : (l == -1) = false := by simpa using hm1
                have HM1 := Lib.hid hm1; clear hm1
                by_cases hin : 0 ≤ l ∧ l < (n.lins.length : Int)
                · obtain ⟨hp, hq⟩ := hin
                  obtain ⟨li, rfl⟩ := Int.eq_ofNat_of_zero_le hp
                  have hq' : li < n.lins.length := by omega
                  obtain ⟨-, lb, lo, hlA, -, -, hlc⟩ := elem_at encLin_len HN.out.net.lins (linAt_get hq') (by omega)
                  have y1 : w.cell? ⟨lb, lo + li * 6 + 1, none⟩ = some (iV (linAt n li).frm) := hlc 1 _ rfl
                  clear hlc hq'
                  rw [hlA] at n4
                  have HB : Hid ((decide (0 ≤ (li : Int)) && decide ((li : Int) < (n.lins.length : Int))) = true) := by show _ = _; simp [hq]
                  by_cases hfr : (linAt n li).frm = (k : Int)
                  · have f1 : ((linAt n li).frm != (k : Int)) = false := by simpa using hfr
                    have f2 : ((linAt n li).frm == (k : Int)) = true := by simpa using hfr
                    have HF := Lib.hid hfr; clear hfr
                    go_wp2_with fail
                    refine (inside_any _ _ _).mono ?_
                    rintro e w2 ⟨rfl, rfl⟩
                    rw [HB.out]
                    go_wp2
                    go_roundw
                    case rel => exact ⟨m + 1, _, by omega, by go_num, rfl, HYES.out (.inr ⟨by omega, by omega, HF.out⟩)⟩
                    case measure => simp [intOf]; omega
                  · have f1 : ((linAt n li).frm != (k : Int)) = true := by simpa using hfr
                    have f2 : ((linAt n li).frm == (k : Int)) = false := by simpa using hfr
                    have HR : Hid (formB n nx = false) := HNO.out (fun h => by
                      rcases h with h | ⟨-, -, h⟩
                      · exact HM1.out h
                      · exact hfr h)
                    clear hfr
                    go_wp2_with fail
                    refine (inside_any _ _ _).mono ?_
                    rintro e w2 ⟨rfl, rfl⟩
                    rw [HB.out]
                    go_wp2
                    go_ret
                    exact ⟨ret_bool HR.out.symm, below_drewN (Below.refl _ _) _⟩
                · have HB : Hid ((decide (0 ≤ l) && decide (l < (n.lins.length : Int))) = false) := by
                    show _ = _
                    rw [Bool.eq_false_iff]
                    intro h
                    simp at h
                    exact hin ⟨h.1, h.2⟩
                  have HR : Hid (formB n nx = false) := HNO.out (fun h => by
                    rcases h with h | ⟨h1, h2, -⟩
                    · exact HM1.out h
                    · exact hin ⟨h1, h2⟩)
                  clear hin
                  go_wp2_with fail
                  refine (inside_any _ _ _).mono ?_
                  rintro e w2 ⟨rfl, rfl⟩
                  rw [HB.out]
                  go_wp2
                  go_ret
                  exact ⟨ret_bool HR.out.symm, below_drewN (Below.refl _ _) _⟩
            · have m1 : ¬ (m : Int) < (ns.length : Int) := by omega
              have HK1 : Hid (∀ o r, o < k + 1 → nx[o]? = some r → r.ns.length = n.offs.length ∧ ∀ l ∈ r.ns, EntryOk n o l) := fun o r' ho hr' => by
                rcases Nat.lt_or_ge o k with h | h
                · exact HS.out o r' h hr'
                · obtain rfl : o = k := by omega
                  rw [HRr.out] at hr'
                  cases hr'
                  refine ⟨HRL.out, fun l hl => ?_⟩
                  obtain ⟨j, hj, hjl⟩ := List.mem_iff_getElem.1 hl
                  have hj2 : j < ns.length := hj
                  exact HQ.out j l (by omega) (by rw [List.getElem?_eq_getElem hj, hjl])
              go_wp2
              go_roundw
              case rel => exact ⟨k + 1, _, by omega, by go_num, rfl, HK1.out⟩
              case measure => simp [intOf]; omega
        · have i2 : ((ns.length : Int) != (n.offs.length : Int)) = true := by simp; omega
          have i2' : ((ns.length : Int) == (n.offs.length : Int)) = false := by simp; omega
          have HR : Hid (formB n nx = false) := formB_false (fun h => hrl (((formed_iff n nx).1 h).2 k _ HRr.out).1)
          clear hrl
          go_wp2
          go_ret
          exact ⟨ret_bool HR.out.symm, below_drewN (Below.refl _ _) _⟩
      · have j1 : ¬ (k : Int) < (nx.length : Int) := by omega
        have HR : Hid (formB n nx = true) := formB_true.2 ((formed_iff n nx).2 ⟨HLEN.out, fun o r hr => HS.out o r (by have := (List.getElem?_eq_some_iff.1 hr).1; omega) hr⟩)
        go_wp2
        go_ret
        exact ⟨ret_bool HR.out.symm, below_drewN (Below.refl _ _) _⟩
  · have i1 : ((nx.length : Int) != (n.offs.length : Int)) = true := by simp; omega
    have i1' : ((nx.length : Int) == (n.offs.length : Int)) = false := by simp; omega
    have HR : Hid (formB n nx = false) := formB_false (fun h => hlen h.1)
    clear hlen
    go_enter Tryz.func46, Tryz.ntmps46
    go_wp2
    go_ret
    exact ⟨ret_bool HR.out.symm, Below.refl _ _⟩
end Go.Proofs.YtjpabeoflhkfkaaGreatDoor
