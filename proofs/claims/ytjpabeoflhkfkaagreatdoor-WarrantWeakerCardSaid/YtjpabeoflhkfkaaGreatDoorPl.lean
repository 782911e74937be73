/-
  Certificates of plans, in plain Lean: what Write answers. The writer of certificates: its block, its numbers; the walks over put and raised. The walks over the small functions of warrant. (Printed by gen_warleaf.py.) The walk over the writer's iterator of cut-offs. (Printed by gen_warcuts.py.) The walk over the writer's way. The walks over the writer's cutoffs and keep.
-/
import Derived.Test.YtjpabeoflhkfkaaGreatDoorPj
import Derived.Test.YtjpabeoflhkfkaaGreatDoorPk
import Derived.Test.YtjpabeoflhkfkaaGreatDoorPaa
import Derived.Deep.AppendLies
import Derived.Test.YtjpabeoflhkfkaaGreatDoorPa
namespace Go.Proofs.YtjpabeoflhkfkaaGreatDoor

/-- The days of departure of a way, as they are written down. -/
def daysW (n : Net) (fr : Int) (l : List St) : List Int := l.dropLast.map fun s => dayOf (calAt n s.office.toNat) s.depart + (2 - fr)
/-- A way: an error, or the days and the arrival. -/
def wayW (n : Net) (nx : List NsC) (fr : Int) (o d : Nat) (t : Int) : Int × List Int × Int :=
  ((wayR n nx d 19 o t).1, daysW n fr (wayR n nx d 19 o t).2, (lastSt (wayR n nx d 19 o t).2).arrive)
/-- When an item that has arrived is delivered (no limit of times). -/
def endW (n : Net) (k d : Nat) (arrive : Int) : Int × Int := firstR (calAt n d) (clsAt n k).deliver (readyR (offAt n d) arrive)
/-- All cut-offs of a promise: an error, or the days. -/
def keepF (n : Net) (nx : List NsC) (fr : Int) (k o d : Nat) (promised : Int) : List Int → Int × List Int
  | [] => (0, [])
  | t :: l =>
    if (wayW n nx fr o d t).1 ≠ 0 then ((wayW n nx fr o d t).1, []) else
    if (endW n k d (wayW n nx fr o d t).2.2).2 ≠ 0 then ((endW n k d (wayW n nx fr o d t).2.2).2, []) else
    if promised < countR (calAt n d) (dayOf (calAt n d) t) (dayOf (calAt n d) (endW n k d (wayW n nx fr o d t).2.2).1) then (190, []) else
    let r := keepF n nx fr k o d promised l
    if r.1 ≠ 0 then (r.1, []) else (0, (wayW n nx fr o d t).2.1 ++ r.2)
def cutsOf (n : Net) (k o : Nat) (fr till : Int) : List Int := cuts (calAt n o) (clsAt n k).cut (1440 * till) (1440 * fr)
def keepR (n : Net) (nx : List NsC) (fr till : Int) (k o d : Nat) (promised : Int) : Int × List Int := keepF n nx fr k o d promised (cutsOf n k o fr till)
/-- Things done one after the other: the first error, or all numbers. -/
def allF {α : Type} (f : α → Int × List Int) : List α → Int × List Int
  | [] => (0, [])
  | x :: l => if (f x).1 ≠ 0 then ((f x).1, []) else
    let r := allF f l
    if r.1 ≠ 0 then (r.1, []) else (0, (f x).2 ++ r.2)
theorem allF_app {α : Type} (f : α → Int × List Int) : ∀ (l m : List α), (allF f l).1 = 0 → allF f (l ++ m) = if (allF f m).1 ≠ 0 then ((allF f m).1, []) else (0, (allF f l).2 ++ (allF f m).2)
  | [], m, _ => by
    show allF f m = _
    by_cases h : (allF f m).1 = 0
    · rw [if_neg (by simpa using h)]
      show _ = (0, [] ++ (allF f m).2)
      rw [List.nil_append, ← h]
    · rw [if_pos h]
      have : ∀ k : List α, (allF f k).1 ≠ 0 → (allF f k).2 = [] := fun k => by
        cases k with
        | nil => intro h; exact absurd rfl h
        | cons x k =>
          intro h
          simp only [allF] at h ⊢
          split at h
          · rename_i g; rw [if_pos g]
          · rename_i g
            rw [if_neg g]
            split at h
            · rename_i g2; rw [if_pos g2]
            · exact absurd rfl h
      rw [← this m h]
  | x :: l, m, h => by
    simp only [allF] at h
    split at h
    · exact absurd h (by assumption)
    · rename_i g
      split at h
      · exact absurd h (by assumption)
      · rename_i g2
        have h1 : (allF f l).1 = 0 := by simpa using g2
        have ih := allF_app f l m h1
        rw [List.cons_append]
        simp only [allF]
        rw [if_neg g, if_neg g, if_neg g2, ih]
        by_cases hm : (allF f m).1 = 0
        · simp [hm]
        · simp [hm]
end Go.Proofs.YtjpabeoflhkfkaaGreatDoor
namespace Go.Proofs.YtjpabeoflhkfkaaGreatDoor
open Go.RowKit
attribute [local go_sem] Oper.semAt_some

/-- The writer's block. -/
abbrev wrO (n : Net) (fr till : Int) (nv dv v : Value) : Obj := .cells #[.slice n.calA n.cals.length n.calC, .slice n.namA n.names.length n.namC, .slice n.opA n.ops.length n.opC, .slice n.offA n.offs.length n.offC, .slice n.linA n.lins.length n.linC, .slice n.clsA n.clss.length n.clsC, iV fr, iV till, nv, dv, v] 87
structure WrS (base : Nat) (W : World) (B : Nat) (n : Net) (fr till : Int) (nv dv v : Value) (xs : List Int) : Prop where
  row : W.heap[B]? = some (.cells #[.slice n.calA n.cals.length n.calC, .slice n.namA n.names.length n.namC, .slice n.opA n.ops.length n.opC, .slice n.offA n.offs.length n.offC, .slice n.linA n.lins.length n.linC, .slice n.clsA n.clss.length n.clsC, iV fr, iV till, nv, dv, v] 87 (0, 0))
  own : W.ownsRow base 3 1 v xs.length (xs.map iV)
  le : base ≤ W.heap.size
/-- What is left as it was: all blocks but the writer's and its numbers'. -/
def FrW (B : Nat) (v v' : Value) (W W' : World) : Prop := W.heap.size ≤ W'.heap.size ∧ ∀ b < W.heap.size, b ≠ B → v.ownBlock ≠ some b → W'.heap[b]? = W.heap[b]? ∧ v'.ownBlock ≠ some b
theorem FrW.refl (B : Nat) (v : Value) (W : World) : FrW B v v W W := ⟨Nat.le_refl _, fun _ _ _ h => ⟨rfl, h⟩⟩
theorem FrW.trans {B : Nat} {v v' v'' : Value} {W W' W'' : World} (h : FrW B v v' W W') (k : FrW B v' v'' W' W'') : FrW B v v'' W W'' :=
  ⟨Nat.le_trans h.1 k.1, fun b hb h1 h2 => by
    obtain ⟨e1, e2⟩ := h.2 b hb h1 h2
    obtain ⟨e3, e4⟩ := k.2 b (by have := h.1; omega) h1 e2
    exact ⟨e3.trans e1, e4⟩⟩
theorem FrW.of_below {B : Nat} {v : Value} {W W' : World} (h : Below W.heap.size W W') : FrW B v v W W' := ⟨h.size, fun b hb _ h2 => ⟨h.block b hb, h2⟩⟩
theorem own_nw {base : Nat} {W : World} {v : Value} {k : Nat} {xs : List Value} (h : W.ownsRow base 3 1 v k xs) {B : Nat} {cs : Array Value} (hB : W.heap[B]? = some (.cells cs 87 (0, 0))) : v.ownBlock ≠ some B := by
  intro e
  rcases h.2 with ⟨rfl, -⟩ | ⟨g, cap, cur, rfl, -, hg, -⟩
  · cases e
  · cases e
    rw [hg] at hB
    cases hB
theorem own_kept2 {base : Nat} {W W' : World} {e : TypeId} {s : Nat} {v : Value} {k : Nat} {xs : List Value} (h : W.ownsRow base e s v k xs) (hk : ∀ g, v.ownBlock = some g → W'.heap[g]? = W.heap[g]?) : W'.ownsRow base e s v k xs := by
  refine ⟨h.1, ?_⟩
  rcases h.2 with h2 | ⟨g, cap, cur, rfl, h1, hg, h3⟩
  · exact .inl h2
  · exact .inr ⟨g, cap, cur, rfl, h1, (hk g rfl).trans hg, h3⟩
theorem WrS.below {base : Nat} {W W' : World} {B : Nat} {n : Net} {fr till : Int} {nv dv v : Value} {xs : List Int} (h : WrS base W B n fr till nv dv v xs) (hb : Below W.heap.size W W') : WrS base W' B n fr till nv dv v xs :=
  ⟨(hb.block _ (block_lt h.row)).trans h.row, own_below h.own hb, Nat.le_trans h.le hb.size⟩
theorem WrS.box {base : Nat} {W : World} {B : Nat} {n : Net} {fr till : Int} {nv dv v : Value} {xs : List Int} (h : WrS base W B n fr till nv dv v xs) : ∀ i u, (netCells n)[i]? = some u → W.cell? ⟨B, i, none⟩ = some u := fun i u hu => by
  have hi : i = 0 ∨ i = 1 ∨ i = 2 ∨ i = 3 ∨ i = 4 ∨ i = 5 := by
    rcases Nat.lt_or_ge i 6 with h | h
    · omega
    · rw [Array.getElem?_eq_none (by simpa [netCells] using h)] at hu; cases hu
  rcases hi with rfl | rfl | rfl | rfl | rfl | rfl <;> exact (cell_of_row _ _ _ _ _ _ h.row).trans hu
def PutR (base : Nat) (W : World) (B : Nat) (n : Net) (fr till : Int) (nv dv v : Value) (xs : List Int) (e : Ending) (W' : World) : Prop := e = .returned (.tuple #[]) ∧ ∃ v', WrS base W' B n fr till nv dv v' xs ∧ FrW B v v' W W' ∧ Below base W W'
theorem intWInf : (Tryz.prog.info? 3).map (fun i => (i.zero, i.size, i.bytes)) = some (some (.int .i64 0), 1, 8) := by kernel_rfl
set_option maxHeartbeats 2000000 in
set_option maxRecDepth 100000 in
theorem put_any (base : Nat) (B : Nat) (n : Net) (fr till : Int) (nv dv v : Value) (xs ys : List Int) (ad : Addr) (m c : Nat) (W : World) (hW : WrS base W B n fr till nv dv v xs) (hy : ys.length = m) (hm : 0 < m) (hbB : base ≤ B) (hl : xs.length + m ≤ 1000000000) (hc : ∀ j u, (ys.map iV)[j]? = some u → W.cell? (ad.add j) = some u) :
    Calls Tryz.prog 35 #[.pointer (some ⟨B, 0, none⟩), .slice (some ad) m c] W (PutR base W B n fr till nv dv v (xs ++ ys)) := by
  obtain ⟨i0, hi0, hz0, hz1, hz2⟩ := info_parts intWInf
  have HO := Lib.hid hW.own
  have HC := Lib.hid hc
  have HR := Lib.hid hW.row
  have HL := Lib.hid hW.le
  have hne : v.ownBlock ≠ some B := own_nw hW.own hW.row
  have HNE := Lib.hid hne
  have b10 : W.cell? ⟨B, 10, none⟩ = some v := cell_of_row _ _ 10 _ _ _ hW.row
  clear hW hc hne
  go_enter Tryz.func35, Tryz.ntmps35
  go_wp2_with (at_builtin; refine wpList_append_lies _ rfl _ _ _ rfl base 3 i0 _ 1 8 Tryz.underlying25 hi0 hz0 hz1 hz2 rfl (by omega) _ _ _ rfl HO.out ad m c (ys.map iV) rfl (by simp [hy]) HC.out (fun u hu => by obtain ⟨z, -, rfl⟩ := List.mem_map.1 hu; rfl) hm (by unfold maxLen; omega) (by omega) HL.out W.heap.size rfl ?_; intro g cap w' own1 hgrow hat hlt; have hr' : w'.heap[B]? = some _ := (hgrow.block B (block_lt HR.out) (fun e => HNE.out e.symm)).trans HR.out; have c10 : w'.cell? ⟨B, 10, none⟩ = some v := cell_of_row _ _ 10 _ _ _ hr'; have f10 := frozen_row hr' 10)
  go_end0
  have hgB : g ≠ B := by
    rcases hat with h | h
    · exact fun e => HNE.out (e ▸ h)
    · have := block_lt HR.out; omega
  refine ⟨rfl, .slice (some ⟨g, 0, none⟩) (xs.length + m) cap, ⟨?_, ?_, ?_⟩, ⟨?_, ?_⟩, ?_⟩
  · exact row_set hr' 10 _
  · have h2 := own_kept2 own1 (W' := w'.setCell ⟨B, 10, none⟩ (.slice (some ⟨g, 0, none⟩) (xs.length + m) cap)) (fun k e => by cases e; exact Below.heap_setCell _ _ _ _ hgB)
    rw [← List.map_append] at h2
    rw [show (xs ++ ys).length = xs.length + m by simp [hy]]
    exact h2
  · have := HL.out; have := hgrow.size; simp; omega
  · have := hgrow.size; simp; omega
  · intro b hb h1 h2
    refine ⟨(Below.heap_setCell _ _ _ _ h1).trans (hgrow.block b hb (fun e => h2 e.symm)), ?_⟩
    intro e
    cases e
    rcases hat with h | h
    · exact h2 h
    · have hb' : g < W.heap.size := hb
      omega
  · refine ((Below.refl base W).grown hgrow HL.out (fun k e => ?_)).setCell (p := ⟨B, 10, none⟩) hbB _
    rcases HO.out.2 with ⟨h, -⟩ | ⟨k', _, _, h, h3, -⟩
    · have e' : v.ownBlock = some k := e
      rw [h] at e'; cases e'
    · have e' : v.ownBlock = some k := e
      rw [h] at e'; cases e'; exact h3
theorem cell_same {W W' : World} {b i : Nat} (h : W'.heap[b]? = W.heap[b]?) : W'.cell? ⟨b, i, none⟩ = W.cell? ⟨b, i, none⟩ := by
  unfold World.cell?
  simp only [h]
/-- A slice that is read lies aside of the writer. -/
def AsideW (B : Nat) (v : Value) (A : Option Addr) : Prop := ∀ a, A = some a → a.block ≠ B ∧ v.ownBlock ≠ some a.block
set_option maxHeartbeats 4000000 in
set_option maxRecDepth 100000 in
theorem raised_any (base : Nat) (B : Nat) (n : Net) (fr till b : Int) (nv dv v : Value) (xs ys : List Int) (A : Option Addr) (c : Nat) (W : World) (hW : WrS base W B n fr till nv dv v xs) (hbB : base ≤ B) (hl : xs.length + ys.length ≤ 1000000000) (hr : Rd W A (ys.map iV)) (ha : AsideW B v A) (hb : -1000 ≤ b ∧ b ≤ 1000) (hy : ∀ y ∈ ys, -1000000000 ≤ y ∧ y ≤ 1000000000) :
    Calls Tryz.prog 36 #[.pointer (some ⟨B, 0, none⟩), iV b, .slice A ys.length c] W (PutR base W B n fr till nv dv v (xs ++ ys.map (· + b))) := by
  have HW := Lib.hid hW
  have HR := Lib.hid hr
  have HA := Lib.hid ha
  have HY := Lib.hid hy
  clear hW hr ha hy
  go_enter Tryz.func36, Tryz.ntmps36
  go_wp2_with fail
  go_loopw [10] (fun i wr => ∃ (k : Nat) (v' : Value), k ≤ ys.length ∧ i = iV k ∧ WrS base wr B n fr till nv dv v' (xs ++ (ys.take k).map (· + b)) ∧ FrW B v v' W wr ∧ Below base W wr) (fun i _ => ys.length + 1 - (intOf i).toNat)
  case atStart => exact ⟨0, v, by omega, rfl, by simpa using HW.out, FrW.refl _ _ _, Below.refl _ _⟩
  case round =>
  obtain ⟨k, v', hk, rfl, hws, hfr, hbw⟩ := hrel
  have HWS := Lib.hid hws
  have HFR := Lib.hid hfr
  have HBW := Lib.hid hbw
  clear hws hfr hbw
  have k0 : (0 : Int) ≤ (k : Int) := by omega
  by_cases hlt : k < ys.length
  case neg =>
    have k1 : ¬ (k : Int) < (ys.length : Int) := by omega
    go_wp2_with fail
    go_end0
    refine ⟨rfl, v', ?_, HFR.out, HBW.out⟩
    have h := HWS.out
    rw [List.take_of_length_le (by omega)] at h
    exact h
  have HLT := Lib.hid hlt
  have k1 : (k : Int) < (ys.length : Int) := by omega
  obtain ⟨S, so, hA, hS, hcell⟩ := HR.out.get (i := k) (by simpa using hlt)
  obtain ⟨y, hyv⟩ : ∃ y, ys[k]? = some y := ⟨_, List.getElem?_eq_getElem hlt⟩
  have hyk : (ys.map iV)[k]? = some (iV y) := by rw [List.getElem?_map, hyv]; rfl
  obtain ⟨hs1, hs2⟩ := HA.out _ hA
  have c1 : wr.cell? ⟨S, so + k, none⟩ = some (iV y) := (cell_same (HFR.out.2 S hS hs1 hs2).1).trans (hcell k _ hyk)
  obtain ⟨y1, y2⟩ := HY.out y (List.mem_of_getElem? hyv)
  have HYV := Lib.hid hyv
  have wy : IntKind.i64.wrap (y + b) = y + b := IntWalk.i64_in _ (by omega)
  have HAA := Lib.hid hA
  rw [hA]
  clear hcell hyk hs1 hs2 hA hyv
  go_wp2_with fail
  have hbn := ba wr (.cells #[iV (y + b)] 3)
  refine (put_any base B n fr till nv dv v' (xs ++ (ys.take k).map (· + b)) [y + b] ⟨wr.heap.size, 0, none⟩ 1 1 _ (HWS.out.below hbn) rfl (by omega) hbB (by simp; omega) (fun j u hu => by
    have : j = 0 := by
      rcases j with _ | j
      · rfl
      · simp at hu
    subst this
    simp at hu
    subst hu
    exact cell_of_row _ _ 0 _ _ _ (heap_alloc_new wr _))).mono ?_
  rintro e w2 ⟨rfl, v2, hws, hfr, hbw⟩
  have HWS2 := Lib.hid hws
  have HFR2 := Lib.hid (HFR.out.trans ((FrW.of_below hbn).trans hfr))
  have HBW2 := Lib.hid ((HBW.out.trans (hbn.mono HWS.out.le)).trans hbw)
  clear hws hfr hbw hbn
  go_wp2_with fail
  go_roundw
  case rel =>
    refine ⟨k + 1, v2, by have := HLT.out; omega, by go_num, ?_, HFR2.out, HBW2.out⟩
    have h := HWS2.out
    rw [List.append_assoc] at h
    rw [List.take_add_one, HYV.out]
    simpa using h
  case measure => have := HLT.out; simp [intOf]; omega
end Go.Proofs.YtjpabeoflhkfkaaGreatDoor
namespace Go.Proofs.YtjpabeoflhkfkaaGreatDoor
open Go.RowKit

set_option maxHeartbeats 400000 in
theorem wmust_yes (x : Int) (w : World) : Calls Tryz.prog 83 #[iV x, iV 0] w fun e w' => e = .returned (iV x) ∧ w = w' := by
  go_enter Tryz.func83, Tryz.ntmps83
  go_wp2
  go_ret
  exact ⟨rfl, rfl⟩
set_option maxHeartbeats 400000 in
theorem wmust_no (x y : Int) (w : World) (hy : y ≠ 0) : Calls Tryz.prog 83 #[iV x, iV y] w fun e w' => e = FailE y ∧ w = w' := by
  have h1 : (y == 0) = false := by simpa using hy
  go_enter Tryz.func83, Tryz.ntmps83
  go_wp2
  exact ⟨rfl, rfl, rfl⟩
set_option maxHeartbeats 400000 in
set_option maxRecDepth 100000 in
theorem wcode_any (x : Int) (w : World) : Calls Tryz.prog 32 #[.iface 44 (iV x)] w fun e w' => e = .returned (iV x) ∧ w = w' := by
  have ht : (Instr.typeAssert (.iface 44 (iV x)) 20 44 true).run Tryz.prog w = .ok (.tuple #[iV x, .bool true]) w := by kernel_rfl
  go_enter Tryz.func32, Tryz.ntmps32
  go_wp2
  go_ret
  exact ⟨rfl, rfl⟩
set_option maxHeartbeats 2000000 in
theorem wfirst_any (c : Cal) (m t : Int) (w : World) (hc : CalIn w c) (hv : calB c = true) (hm1 : 0 ≤ m) (hm2 : m < 1440) (ht1 : -100000000 ≤ t) (ht2 : t ≤ 100000000) :
    Calls Tryz.prog 84 #[calV c, iV m, iV t] w fun e w' => e = .returned (.tuple #[iV (firstR c m t).1, iV (firstR c m t).2]) ∧ Below w.heap.size w w' := by
  obtain ⟨z1, z2, -⟩ := calB_zone hv
  have HV := Lib.hid hv; clear hv
  have HC := Lib.hid hc; clear hc
  have hday1 : -80000 ≤ dayOf c t := by unfold dayOf; omega
  have hday2 : dayOf c t ≤ 80000 := by unfold dayOf; omega
  have hmin1 : 0 ≤ minOf c t := by unfold minOf; omega
  have hmin2 : minOf c t < 1440 := by unfold minOf; omega
  have HX : Hid ((w.alloc (.cells #[iV c.zone, .slice c.wA c.week.length c.wc, .slice c.hA c.hol.length c.hc] 58)).heap[w.heap.size]? = some (.cells #[iV c.zone, .slice c.wA c.week.length c.wc, .slice c.hA c.hol.length c.hc] 58)) := heap_alloc_new _ _
  have HB0 := Lib.hid (ba w (.cells #[iV c.zone, .slice c.wA c.week.length c.wc, .slice c.hA c.hol.length c.hc] 58))
  have HFE := Lib.hid (firstR_eq c m t)
  have HFD : Hid (firstDay c m t = if m < minOf c t then dayOf c t + 1 else dayOf c t) := rfl
  generalize hdd : dayOf c t = dd at *
  generalize hmm : minOf c t = mm at *
  have HDD := Lib.hid hdd; have HMM := Lib.hid hmm; clear hdd hmm
  go_enter Tryz.func84, Tryz.ntmps84
  go_wp2_with fail
  refine (local_any c t _ (HC.out.below HB0.out) HV.out (by omega) (by omega)).mono ?_
  rintro e w1 ⟨rfl, hb⟩
  rw [HDD.out, HMM.out]
  have HX1 := Lib.hid (box_below (w := w) HX.out hb)
  have HB1 := Lib.hid (HB0.out.trans (hb.mono HB0.out.size))
  clear hb HX HB0
  have k0 : w1.cell? ⟨w.heap.size, 0, none⟩ = some (iV c.zone) := cell_of_row _ _ 0 _ _ _ HX1.out
  have k1 : w1.cell? ⟨w.heap.size, 1, none⟩ = some (.slice c.wA c.week.length c.wc) := cell_of_row _ _ 1 _ _ _ HX1.out
  have k2 : w1.cell? ⟨w.heap.size, 2, none⟩ = some (.slice c.hA c.hol.length c.hc) := cell_of_row _ _ 2 _ _ _ HX1.out
  have main : ∀ D : Int, firstDay c m t = D → -80000 ≤ D → D ≤ 80001 → Hid (firstDay c m t = D ∧ dayR D = true) := fun D h1 h2 h3 => ⟨h1, by unfold dayR; simp; omega⟩
  have MAIN := Lib.hid main; clear main
  by_cases hlt : m < mm
  · have HD := MAIN.out (dd + 1) (by rw [HFD.out, if_pos hlt]) (by omega) (by omega)
    go_wp2_with fail
    refine (next_any c (dd + 1) _ (HC.out.below HB1.out) HV.out HD.out.2).mono ?_
    rintro e w2 ⟨rfl, hb⟩
    have HX2 := Lib.hid (box_below (w := w) HX1.out hb)
    have HB2 := Lib.hid (bt HB1.out hb)
    clear hb HX1 HB1 k0 k1 k2
    have k0 : w2.cell? ⟨w.heap.size, 0, none⟩ = some (iV c.zone) := cell_of_row _ _ 0 _ _ _ HX2.out
    have k1 : w2.cell? ⟨w.heap.size, 1, none⟩ = some (.slice c.wA c.week.length c.wc) := cell_of_row _ _ 1 _ _ _ HX2.out
    have k2 : w2.cell? ⟨w.heap.size, 2, none⟩ = some (.slice c.hA c.hol.length c.hc) := cell_of_row _ _ 2 _ _ _ HX2.out
    rcases nextR_cases c (dd + 1) with ⟨x, hx⟩ | hx
    · have hin := nextR_in hx
      have hR : Hid (firstR c m t = (timeOf c x m, 0)) := by show _ = _; rw [HFE.out, HD.out.1, hx]; rfl
      have hdx : Hid (dayR x = true) := by show _ = _; unfold dayR; simp; omega
      rw [hx]
      clear hx hin
      go_wp2_with fail
      refine (time_any c x m _ (HC.out.below HB2.out) HV.out hdx.out hm1 hm2).mono ?_
      rintro e w3 ⟨rfl, hb⟩
      have HB3 := Lib.hid (bt HB2.out hb); clear hb
      go_wp2_with fail
      go_ret2
      rw [hR.out]
      exact ⟨rfl, HB3.out⟩
    · have hR : Hid (firstR c m t = (0, 20)) := by show _ = _; rw [HFE.out, HD.out.1, hx]; rfl
      rw [hx]
      clear hx
      go_wp2_with fail
      go_ret2
      rw [hR.out]
      exact ⟨rfl, HB2.out⟩
  · have HD := MAIN.out dd (by rw [HFD.out, if_neg hlt]) (by omega) (by omega)
    go_wp2_with fail
    refine (next_any c (dd) _ (HC.out.below HB1.out) HV.out HD.out.2).mono ?_
    rintro e w2 ⟨rfl, hb⟩
    have HX2 := Lib.hid (box_below (w := w) HX1.out hb)
    have HB2 := Lib.hid (bt HB1.out hb)
    clear hb HX1 HB1 k0 k1 k2
    have k0 : w2.cell? ⟨w.heap.size, 0, none⟩ = some (iV c.zone) := cell_of_row _ _ 0 _ _ _ HX2.out
    have k1 : w2.cell? ⟨w.heap.size, 1, none⟩ = some (.slice c.wA c.week.length c.wc) := cell_of_row _ _ 1 _ _ _ HX2.out
    have k2 : w2.cell? ⟨w.heap.size, 2, none⟩ = some (.slice c.hA c.hol.length c.hc) := cell_of_row _ _ 2 _ _ _ HX2.out
    rcases nextR_cases c (dd) with ⟨x, hx⟩ | hx
    · have hin := nextR_in hx
      have hR : Hid (firstR c m t = (timeOf c x m, 0)) := by show _ = _; rw [HFE.out, HD.out.1, hx]; rfl
      have hdx : Hid (dayR x = true) := by show _ = _; unfold dayR; simp; omega
      rw [hx]
      clear hx hin
      go_wp2_with fail
      refine (time_any c x m _ (HC.out.below HB2.out) HV.out hdx.out hm1 hm2).mono ?_
      rintro e w3 ⟨rfl, hb⟩
      have HB3 := Lib.hid (bt HB2.out hb); clear hb
      go_wp2_with fail
      go_ret2
      rw [hR.out]
      exact ⟨rfl, HB3.out⟩
    · have hR : Hid (firstR c m t = (0, 20)) := by show _ = _; rw [HFE.out, HD.out.1, hx]; rfl
      rw [hx]
      clear hx
      go_wp2_with fail
      go_ret2
      rw [hR.out]
      exact ⟨rfl, HB2.out⟩
set_option maxHeartbeats 2000000 in
set_option maxRecDepth 100000 in
theorem wcalof_any (N : Nat) (n : Net) (o ci : Nat) (of : Off) (c : Cal) (w : World) (hN : NetP w N n) (h1 : n.offs[o]? = some of) (h2 : of.cal = (ci : Int)) (h3 : n.cals[ci]? = some c) :
    Calls Tryz.prog 82 #[.pointer (some ⟨N, 0, none⟩), iV o] w fun e w' => e = .returned (calV c) ∧ Below w.heap.size w w' := by
  obtain ⟨ho, ob, oo, hoA, hob, -, hoc⟩ := elem_at encOff_len hN.net.offs h1 (by omega)
  obtain ⟨hc, cb, co, hcA, hcb, hc0, hcc⟩ := elem_at encCal_len hN.net.cals h3 (by omega)
  have hZ := heap_alloc_new w (.cells #[iV 0, .slice none 0 0, .slice none 0 0] 58)
  have hb := ba w (.cells #[iV 0, .slice none 0 0, .slice none 0 0] 58)
  have HB := Lib.hid hb
  have n0 : (w.alloc (.cells #[iV 0, .slice none 0 0, .slice none 0 0] 58)).cell? ⟨N, 0, none⟩ = some (.slice n.calA n.cals.length n.calC) := (hN.below hb).box 0 _ rfl
  have n3 : (w.alloc (.cells #[iV 0, .slice none 0 0, .slice none 0 0] 58)).cell? ⟨N, 3, none⟩ = some (.slice n.offA n.offs.length n.offC) := (hN.below hb).box 3 _ rfl
  have o2 : (w.alloc (.cells #[iV 0, .slice none 0 0, .slice none 0 0] 58)).cell? ⟨ob, oo + o * 7 + 2, none⟩ = some (iV of.cal) := (hb.cell (p := ⟨ob, _, none⟩) hob).trans (hoc 2 _ rfl)
  have c0 : (w.alloc (.cells #[iV 0, .slice none 0 0, .slice none 0 0] 58)).cell? ⟨cb, co + ci * 3, none⟩ = some (iV c.zone) := (hb.cell (p := ⟨cb, _, none⟩) hcb).trans (hc0 _ rfl)
  have c1 : (w.alloc (.cells #[iV 0, .slice none 0 0, .slice none 0 0] 58)).cell? ⟨cb, co + ci * 3 + 1, none⟩ = some (.slice c.wA c.week.length c.wc) := (hb.cell (p := ⟨cb, _, none⟩) hcb).trans (hcc 1 _ rfl)
  have c2 : (w.alloc (.cells #[iV 0, .slice none 0 0, .slice none 0 0] 58)).cell? ⟨cb, co + ci * 3 + 2, none⟩ = some (.slice c.hA c.hol.length c.hc) := (hb.cell (p := ⟨cb, _, none⟩) hcb).trans (hcc 2 _ rfl)
  have z0 : (w.alloc (.cells #[iV 0, .slice none 0 0, .slice none 0 0] 58)).cell? ⟨w.heap.size, 0, none⟩ = some (iV 0) := cell_of_row _ _ 0 _ _ _ hZ
  have z1 : (w.alloc (.cells #[iV 0, .slice none 0 0, .slice none 0 0] 58)).cell? ⟨w.heap.size, 1, none⟩ = some (.slice none 0 0) := cell_of_row _ _ 1 _ _ _ hZ
  have z2 : (w.alloc (.cells #[iV 0, .slice none 0 0, .slice none 0 0] 58)).cell? ⟨w.heap.size, 2, none⟩ = some (.slice none 0 0) := cell_of_row _ _ 2 _ _ _ hZ
  have y0 : (w.alloc (.cells #[iV 0, .slice none 0 0, .slice none 0 0] 58)).frozen? ⟨w.heap.size, 0, none⟩ = false := frozen_row hZ 0
  have y1 : (w.alloc (.cells #[iV 0, .slice none 0 0, .slice none 0 0] 58)).frozen? ⟨w.heap.size, 1, none⟩ = false := frozen_row hZ 1
  have y2 : (w.alloc (.cells #[iV 0, .slice none 0 0, .slice none 0 0] 58)).frozen? ⟨w.heap.size, 2, none⟩ = false := frozen_row hZ 2
  rw [h2] at o2
  rw [hoA] at n3
  rw [hcA] at n0
  have j1 : (0 : Int) ≤ (o : Int) := by omega
  have j2 : (o : Int) < (n.offs.length : Int) := by omega
  have j3 : (0 : Int) ≤ (ci : Int) := by omega
  have j4 : (ci : Int) < (n.cals.length : Int) := by omega
  clear hN hoc hc0 hcc hZ hb hob hcb h1 h2 h3 hoA hcA
  go_enter Tryz.func82, Tryz.ntmps82
  go_upto_region 1 with fail
  change Code.wp _ _ _ _ (w.alloc (.cells #[iV 0, .slice none 0 0, .slice none 0 0] 58))
  generalize (w.alloc (.cells #[iV 0, .slice none 0 0, .slice none 0 0] 58)) = W0 at *
  go_still_tail 16, (by kernel_rfl)
  go_wp2
  refine bodyPost_ret (v := calV c) (by simp [results, Tryz.results82, go_sem, z0, z1, z2]) rfl ⟨rfl, ?_⟩
  exact b_drew (((HB.out.setCell (p := ⟨w.heap.size, 0, none⟩) (Nat.le_refl _) _).setCell (p := ⟨w.heap.size, 1, none⟩) (Nat.le_refl _) _).setCell (p := ⟨w.heap.size, 2, none⟩) (Nat.le_refl _) _)
set_option maxHeartbeats 2000000 in
set_option maxRecDepth 100000 in
theorem wready_any (N : Nat) (n : Net) (o : Nat) (of : Off) (t : Int) (w : World) (hN : NetP w N n) (h1 : n.offs[o]? = some of) (p1 : 1 ≤ of.passes) (p2 : of.passes ≤ 4) (m1 : 1 ≤ of.minutes) (m2 : of.minutes ≤ 240) (t1 : -100000000 ≤ t) (t2 : t ≤ 100000000) :
    Calls Tryz.prog 85 #[.pointer (some ⟨N, 0, none⟩), iV o, iV t] w fun e w' => e = .returned (iV (readyR of t)) ∧ Below w.heap.size w w' := by
  obtain ⟨ho, ob, oo, hoA, hob, -, hoc⟩ := elem_at encOff_len hN.net.offs h1 (by omega)
  have n3 : w.cell? ⟨N, 3, none⟩ = some (.slice n.offA n.offs.length n.offC) := hN.box 3 _ rfl
  have o4 : w.cell? ⟨ob, oo + o * 7 + 4, none⟩ = some (iV of.passes) := hoc 4 _ rfl
  have o5 : w.cell? ⟨ob, oo + o * 7 + 5, none⟩ = some (iV of.minutes) := hoc 5 _ rfl
  rw [hoA] at n3
  have HR : Hid (readyR of t = t + of.passes * of.minutes) := rfl
  obtain ⟨q1, q2⟩ := mul_small p1 p2 m1 m2
  generalize of.passes = p at *
  generalize of.minutes = m at *
  have r1 : IntKind.i64.wrap (p * m) = p * m := IntWalk.i64_in _ (by omega)
  have r2 : IntKind.i64.wrap (t + p * m) = t + p * m := IntWalk.i64_in _ (by omega)
  have j1 : (0 : Int) ≤ (o : Int) := by omega
  have j2 : (o : Int) < (n.offs.length : Int) := by omega
  clear hN hoc h1 hoA hob
  go_enter Tryz.func85, Tryz.ntmps85
  go_upto_region 1 with fail
  go_quiet (fail)
  clear r1 r2
  go_wp2
  go_ret
  exact ⟨ret_int HR.out.symm, below_drewN (Below.refl w.heap.size w) _⟩
set_option maxHeartbeats 4000000 in
set_option maxRecDepth 100000 in
theorem seal_any (xs : List Int) (A : Option Addr) (c : Nat) (w : World) (hr : Rd w A (xs.map iV)) (hl : xs.length ≤ 1000000000) (hx : ∀ x ∈ xs, I64 x) :
    Calls Tryz.prog 10 #[.slice A xs.length c] w fun e w' => e = .returned (iV (sealR xs)) ∧ w = w' := by
  have HR := Lib.hid hr
  have HX := Lib.hid hx
  clear hr hx
  go_enter Tryz.func10, Tryz.ntmps10
  go_wp2_with fail
  go_loop [3, 4, 6, 9] (fun p s _ i => ∃ (k : Nat) (pp ss : Int), k ≤ xs.length ∧ i = iV k ∧ p = iV pp ∧ s = iV ss ∧ SealIn pp ss ∧ sealR xs = sealG pp ss (xs.drop k)) (fun _ _ _ i => xs.length + 1 - (intOf i).toNat)
  case atStart => exact ⟨0, 1, 0, by omega, rfl, rfl, rfl, ⟨by decide, by decide, by decide, by decide⟩, by simp [sealR]⟩
  case round =>
  obtain ⟨k, p, s, hk, rfl, rfl, rfl, hin, hse⟩ := hrel
  have HI := Lib.hid hin
  have HE := Lib.hid hse
  clear hin hse
  have k0 : (0 : Int) ≤ (k : Int) := by omega
  by_cases hlt : k < xs.length
  case neg =>
    have k1 : ¬ (k : Int) < (xs.length : Int) := by omega
    have HZ : Hid (sealR xs = s) := by
      show _ = _
      rw [HE.out, List.drop_eq_nil_of_le (by omega)]
      rfl
    go_wp2_with fail
    go_ret
    exact ⟨ret_int HZ.out.symm, rfl⟩
  have HLT := Lib.hid hlt
  have k1 : (k : Int) < (xs.length : Int) := by omega
  obtain ⟨S, so, hA, hS, hcell⟩ := HR.out.get (i := k) (by simpa using hlt)
  obtain ⟨x, hxv⟩ : ∃ x, xs[k]? = some x := ⟨_, List.getElem?_eq_getElem hlt⟩
  have c1 : w.cell? ⟨S, so + k, none⟩ = some (iV x) := hcell k _ (by rw [List.getElem?_map, hxv]; rfl)
  have HAA := Lib.hid hA
  have HXV := Lib.hid hxv
  have hst := HI.out.step x
  have HST := Lib.hid hst
  obtain ⟨p0, p1, s0, s1⟩ := HI.out
  obtain ⟨n0, n1⟩ := norm_in x
  obtain ⟨q0, q1, r0, r1⟩ := hst
  have HXI := Lib.hid (HX.out x (List.mem_of_getElem? hxv))
  have hm1 : -65521 < Int.tmod x 65521 ∧ Int.tmod x 65521 < 65521 := by
    have h2 := Int.tmod_lt_of_pos x (b := 65521) (by decide)
    have := Int.tmod_lt_of_pos (-x) (b := 65521) (by decide)
    rw [Int.neg_tmod] at this
    omega
  have w1 : IntKind.i64.wrap (p * 3) = p * 3 := IntWalk.i64_in _ (by omega)
  have w2 : IntKind.i64.wrap (Int.tmod x 65521 + 65521) = Int.tmod x 65521 + 65521 := IntWalk.i64_in _ (by omega)
  generalize hq : Int.tmod (p * 3) 65521 = q at *
  generalize hnx : Int.tmod (Int.tmod x 65521 + 65521) 65521 = nx at *
  have hmul : 0 ≤ nx * q ∧ nx * q ≤ 65520 * 65520 := ⟨Int.mul_nonneg n0 q0, Int.mul_le_mul (by omega) (by omega) q0 (by omega)⟩
  have w3 : IntKind.i64.wrap (nx * q) = nx * q := IntWalk.i64_in _ (by omega)
  have w4 : IntKind.i64.wrap (s + nx * q) = s + nx * q := IntWalk.i64_in _ (by omega)
  generalize hrr : Int.tmod (s + nx * q) 65521 = rr at *
  have HN : Hid (sealR xs = sealG q rr (xs.drop (k + 1))) := by
    show _ = _
    rw [HE.out, List.drop_eq_getElem_cons hlt]
    rw [List.getElem?_eq_getElem hlt] at hxv
    rw [Option.some.inj hxv, ← hrr, ← hnx, ← hq]
    rfl
  rw [hA]
  clear hcell hA hxv
  have wm1 : IntKind.i64.wrap q = q := IntWalk.i64_in _ (by omega)
  have wm2 : IntKind.i64.wrap nx = nx := IntWalk.i64_in _ (by omega)
  have wm3 : IntKind.i64.wrap rr = rr := IntWalk.i64_in _ (by omega)
  have wm4 : IntKind.i64.wrap (Int.tmod x 65521) = Int.tmod x 65521 := IntWalk.i64_in _ (by omega)
  go_wp2_with fail
  go_round
  case rel => exact ⟨k + 1, q, rr, by have := HLT.out; omega, by go_num, rfl, rfl, HST.out, HN.out⟩
  case measure => have := HLT.out; simp [intOf]; omega
end Go.Proofs.YtjpabeoflhkfkaaGreatDoor
namespace Go.Proofs.YtjpabeoflhkfkaaGreatDoor
open Go.RowKit
attribute [local go_sem] Oper.semAt_some

/-- What the iterator wants kept: all blocks below base, its boxes, and of the writer's block all but the numbers. -/
structure KwR (base N P2 P3 P4 : Nat) (W W' : World) : Prop where
  size : W.heap.size ≤ W'.heap.size
  old : ∀ b < base, W'.heap[b]? = W.heap[b]?
  p2 : W'.heap[P2]? = W.heap[P2]?
  p3 : W'.heap[P3]? = W.heap[P3]?
  p4 : W'.heap[P4]? = W.heap[P4]?
  wr : ∀ i < 10, W'.cell? ⟨N, i, none⟩ = W.cell? ⟨N, i, none⟩
theorem KwR.trans {base N P2 P3 P4 : Nat} (a b c : World) (h : KwR base N P2 P3 P4 a b) (k : KwR base N P2 P3 P4 b c) : KwR base N P2 P3 P4 a c :=
  ⟨Nat.le_trans h.size k.size, fun x hx => (k.old x hx).trans (h.old x hx), k.p2.trans h.p2, k.p3.trans h.p3, k.p4.trans h.p4, fun i hi => (k.wr i hi).trans (h.wr i hi)⟩
theorem NetIn.old {w W : World} {n : Net} (h : NetIn w n) (hs : w.heap.size ≤ W.heap.size) (hk : ∀ b < w.heap.size, W.heap[b]? = w.heap[b]?) : NetIn W n := by
  have g := h.below (w' := { w with heap := W.heap }) ⟨rfl, rfl, rfl, hs, fun i hi => hk i hi⟩
  exact ⟨g.cals, g.cal, g.names, g.name, g.ops, g.op, g.offs, g.off, g.lins, g.lin, g.clss, g.cls, g.lens⟩
/-- What the iterator reads. -/
structure CuW (w : World) (n : Net) (N P2 P3 P4 o k : Nat) (fr till : Int) : Prop where
  net : NetP w N n
  b2 : w.cell? ⟨P2, 0, none⟩ = some (.pointer (some ⟨N, 0, none⟩))
  b3 : w.cell? ⟨P3, 0, none⟩ = some (iV o)
  b4 : w.cell? ⟨P4, 0, none⟩ = some (iV k)
  f6 : w.cell? ⟨N, 6, none⟩ = some (iV fr)
  f7 : w.cell? ⟨N, 7, none⟩ = some (iV till)
theorem CuW.below {w w' : World} {n : Net} {N P2 P3 P4 o k : Nat} {fr till : Int} (h : CuW w n N P2 P3 P4 o k fr till) (hb : Below w.heap.size w w') : CuW w' n N P2 P3 P4 o k fr till :=
  ⟨h.net.below hb, (hb.cell (p := ⟨P2, 0, none⟩) (World.block_lt_of_cell? w _ h.b2)).trans h.b2, (hb.cell (p := ⟨P3, 0, none⟩) (World.block_lt_of_cell? w _ h.b3)).trans h.b3, (hb.cell (p := ⟨P4, 0, none⟩) (World.block_lt_of_cell? w _ h.b4)).trans h.b4, (hb.cell (p := ⟨N, 6, none⟩) h.net.lt).trans h.f6, (hb.cell (p := ⟨N, 7, none⟩) h.net.lt).trans h.f7⟩
theorem CuW.keep {w0 w w' : World} {n : Net} {N P2 P3 P4 o k : Nat} {fr till : Int} (hn : NetIn w0 n) (h0 : Same0 w0 w) (h : CuW w n N P2 P3 P4 o k fr till) (hk : KwR w0.heap.size N P2 P3 P4 w w') : CuW w' n N P2 P3 P4 o k fr till :=
  ⟨⟨fun i v hv => by
      have hi : i < 10 := by
        rcases Nat.lt_or_ge i 6 with h | h
        · omega
        · rw [Array.getElem?_eq_none (by simpa [netCells] using h)] at hv; cases hv
      exact (hk.wr i hi).trans (h.net.box i v hv), hn.old (Nat.le_trans h0.1 hk.size) (fun b hb => (hk.old b hb).trans (h0.2 b hb))⟩,
    (cell_same hk.p2).trans h.b2, (cell_same hk.p3).trans h.b3, (cell_same hk.p4).trans h.b4, (hk.wr 6 (by omega)).trans h.f6, (hk.wr 7 (by omega)).trans h.f7⟩
theorem Same0.keepW {w0 w w' : World} {N P2 P3 P4 : Nat} (h : Same0 w0 w) (hk : KwR w0.heap.size N P2 P3 P4 w w') : Same0 w0 w' := ⟨Nat.le_trans h.1 hk.size, fun b hb => (hk.old b hb).trans (h.2 b hb)⟩
set_option maxHeartbeats 8000000 in
set_option maxRecDepth 100000 in
theorem wcuts_seq (w0 : World) (n : Net) (N P2 P3 P4 o k : Nat) (fr till : Int) (w : World) (hn : NetIn w0 n) (hb0 : Same0 w0 w) (hG : Good n) (hk : k < n.clss.length) (ho : o < n.offs.length) (h : CuW w n N P2 P3 P4 o k fr till) (hf : 0 ≤ fr) (hf2 : fr ≤ 600) (ht : till ≤ 600) (ht0 : 0 ≤ till) :
    SeqR Tryz.prog 124 #[.pointer (some ⟨P2, 0, none⟩), .pointer (some ⟨P3, 0, none⟩), .pointer (some ⟨P4, 0, none⟩)] (cuts (calAt n o) (clsAt n k).cut (1440 * till) (1440 * fr)).length (encI (cuts (calAt n o) (clsAt n k).cut (1440 * till) (1440 * fr))) (KwR w0.heap.size N P2 P3 P4) w := by
  intro l J Jp hJ hY W hK hz hJ0
  have HN := Lib.hid hn; clear hn
  have HS0 := Lib.hid (h.keep HN.out hb0 hK)
  have HZ0 := Lib.hid (hb0.keepW hK)
  have HJ := Lib.hid hJ; clear hJ
  have HY := Lib.hid hY; clear hY
  obtain ⟨ci, hci⟩ := hG.calAt ho
  have HCI := Lib.hid hci; clear hci
  have HC := Lib.hid (hG.cls _ (List.mem_of_getElem? (clsAt_get hk)))
  have HKC := Lib.hid (clsAt_get hk)
  clear hK hz hb0 h hG
  have hk0 : (0 : Int) ≤ (k : Int) := by omega
  have hk1 : (k : Int) < (n.clss.length : Int) := by omega
  refine callsIn_of_wp Tryz.func124 rfl trivial ?_ rfl
  simp only [Tryz.ntmps124, List.size_toArray, List.length_cons, List.length_nil, Nat.reduceAdd, Nat.reduceSub, Array.replicate_succ, Array.replicate_zero, List.push_toArray, List.append_toArray, List.nil_append, List.cons_append]
  have e1 := HS0.out.f6
  have e2 := HS0.out.b2
  gi_wp2
  clear e1 e2
  generalize hL : cuts (calAt n o) (clsAt n k).cut (1440 * till) (1440 * fr) = L at *
  have HL := Lib.hid hL; clear hL
  gi_loopw [5] (fun i wr => ∃ (j : Nat) (t : Int), j ≤ L.length ∧ 0 ≤ t ∧ t ≤ 3100000 ∧ i = iV t ∧ J j wr ∧ CuW wr n N P2 P3 P4 o k fr till ∧ cuts (calAt n o) (clsAt n k).cut (1440 * till) t = L.drop j ∧ Same0 w0 wr) (fun i _ => (3200000 - intOf i).toNat)
  case atStart => exact ⟨0, 1440 * fr, Nat.zero_le _, by omega, by omega, by go_num, hJ0, HS0.out, by rw [HL.out]; rfl, HZ0.out⟩
  case round =>
    obtain ⟨j, t, hj, ht1, ht2, rfl, hjj, hS, hcu, hz⟩ := hrel
    have HS := Lib.hid hS; clear hS
    have HJK := Lib.hid hjj; clear hjj
    have HCU := Lib.hid hcu; clear hcu
    have HZ := Lib.hid hz; clear hz
    obtain ⟨-, lb, lo, hlA, hlb, -, hlc⟩ := elem_at encCls_len HS.out.net.net.clss HKC.out (by omega)
    have n5 : wr.cell? ⟨N, 5, none⟩ = some (.slice n.clsA n.clss.length n.clsC) := HS.out.net.box 5 _ rfl
    have l1 : wr.cell? ⟨lb, lo + k * 3 + 1, none⟩ = some (iV (clsAt n k).cut) := hlc 1 _ rfl
    rw [hlA] at n5
    have HSw : Hid (∀ w', Below wr.heap.size wr w' → w'.cell? ⟨P2, 0, none⟩ = some (.pointer (some ⟨N, 0, none⟩)) ∧ w'.cell? ⟨P3, 0, none⟩ = some (iV o) ∧ w'.cell? ⟨P4, 0, none⟩ = some (iV k) ∧ w'.cell? ⟨N, 5, none⟩ = some (.slice (some ⟨lb, lo, none⟩) n.clss.length n.clsC) ∧ w'.cell? ⟨lb, lo + k * 3 + 1, none⟩ = some (iV (clsAt n k).cut)) := fun w' hb =>
      ⟨(HS.out.below hb).b2, (HS.out.below hb).b3, (HS.out.below hb).b4, (hb.cell (p := ⟨N, 5, none⟩) HS.out.net.lt).trans n5, (hb.cell (p := ⟨lb, _, none⟩) hlb).trans l1⟩
    clear hlc hlA hlb n5 l1
    refine wpIn_block ?_
    refine wpIn_seq ?_
    refine wpIn_wide.2 ?_
    go_region_held3 (fun w' => w'.cell? ⟨P2, 0, none⟩ = some (.pointer (some ⟨N, 0, none⟩)) ∧ w'.cell? ⟨P3, 0, none⟩ = some (iV o) ∧ w'.cell? ⟨P4, 0, none⟩ = some (iV k) ∧ w'.cell? ⟨N, 5, none⟩ = some (.slice (some ⟨lb, lo, none⟩) n.clss.length n.clsC) ∧ w'.cell? ⟨lb, lo + k * 3 + 1, none⟩ = some (iV (clsAt n k).cut)) (first | (with_reducible exact HSw.out _ (b_drew (Below.refl _ _))) | (with_reducible exact HSw.out _ HB1a.out) | (with_reducible exact HSw.out _ HB1b.out)) (first
      | (go_at_call 82; refine (wcalof_any N n o ci _ _ _ (HS.out.net.drewN 1) (offAt_get ho) HCI.out.1 HCI.out.2.1).mono ?_; rintro e w1a ⟨rfl, hb⟩; have HB1a := Lib.hid (bdr hb); clear hb)
      | (go_at_call 84; refine (wfirst_any _ _ t _ ((HS.out.net.net.cal _ (List.mem_of_getElem? HCI.out.2.1)).below HB1a.out) HCI.out.2.2 HC.out.1 HC.out.2.1 (by omega) (by omega)).mono ?_; rintro e w2 ⟨rfl, hb⟩; have HB1b := Lib.hid (bt HB1a.out hb); clear hb)
      | fail)
    have HJ2 := Lib.hid (HJ.out j wr w2 HJK.out HB1b.out)
    have HS2 := Lib.hid (HS.out.below HB1b.out)
    have HZ2 := Lib.hid (HZ.out.below HB1b.out)
    have p5 := HS2.out.f7
    have p6 := HS2.out.b2
    have wt : IntKind.i64.wrap (1440 * till) = 1440 * till := IntWalk.i64_in _ (by omega)
    clear HS HJK HZ HSw HB1a HB1b
    have hce := cuts_eq (calAt n o) HC.out.1 HC.out.2.1 (1440 * till) t
    rw [HCU.out] at hce
    have HCE := Lib.hid hce; clear hce
    change Code.wpIn Fence.wide 8 _ _ _ _ _
    by_cases hF2 : (firstR (calAt n o) (clsAt n k).cut t).2 = 0
    case neg =>
      have hnil : L.drop j = [] := by rw [HCE.out, if_neg (fun h => hF2 h.1)]
      have hjl : j = L.length := by
        have := congrArg List.length hnil
        simp at this
        omega
      have g1 : ((firstR (calAt n o) (clsAt n k).cut t).2 != 0) = true := by simpa using hF2
      have g2 : ((firstR (calAt n o) (clsAt n k).cut t).2 == 0) = false := by simpa using hF2
      subst hjl
      clear hnil hF2
      gi_wp2
      refine ⟨fun _ h => (by cases h), ?_⟩
      gi_wp2
      refine bodyPost_ret (results_none rfl _ _ _) rfl ?_
      exact .inl ⟨⟨_, rfl⟩, by rw [HL.out]; exact HJ2.out⟩
    case pos =>
      have hin := firstR_in HC.out.1 HC.out.2.1 (c := calAt n o) (t := t) (x := (firstR (calAt n o) (clsAt n k).cut t).1) (by rw [← hF2])
      rw [hF2]
      have HF2 := Lib.hid hF2; clear hF2
      generalize hx : (firstR (calAt n o) (clsAt n k).cut t).1 = x at *
      have HX := Lib.hid hx; clear hx
      by_cases hlt : x < 1440 * till
      case neg =>
        have hnil : L.drop j = [] := by rw [HCE.out, if_neg (fun h => hlt h.2)]
        have hjl : j = L.length := by
          have := congrArg List.length hnil
          simp at this
          omega
        have g1 : 1440 * till ≤ x := by omega
        subst hjl
        clear hnil hlt
        gi_wp2
        refine ⟨fun _ h => (by cases h), ?_⟩
        gi_wp2
        refine bodyPost_ret (results_none rfl _ _ _) rfl ?_
        exact .inl ⟨⟨_, rfl⟩, by rw [HL.out]; exact HJ2.out⟩
      case pos =>
        have hcons : L.drop j = x :: cuts (calAt n o) (clsAt n k).cut (1440 * till) (x + 1) := by rw [HCE.out, if_pos ⟨HF2.out, hlt⟩]
        have hjl : j < L.length := by
          rcases Nat.lt_or_ge j L.length with h | h
          · exact h
          · rw [List.drop_eq_nil_of_le h] at hcons; cases hcons
        have hnext : cuts (calAt n o) (clsAt n k).cut (1440 * till) (x + 1) = L.drop (j + 1) := by
          rw [← List.tail_drop, hcons, List.tail_cons]
        have hget : encI L j = #[iV x] := by
          have h1 : L[j]? = some x := by
            have := congrArg (fun l => l[0]?) hcons
            simpa using this
          unfold encI
          simp [List.getD, h1]
        have HNX := Lib.hid hnext; clear hnext
        clear hcons
        obtain ⟨fn, tmps, assign, body, hy, hR⟩ := HY.out j w2 hjl HJ2.out
        rw [hget] at hy
        clear hget
        have g1 : ¬ 1440 * till ≤ x := by omega
        gi_wp2_with fail
        refine hR.mono ?_
        clear hy hR p5 p6
        rintro e W3 (⟨rfl, hj3, hz3, hk3⟩ | ⟨ch, rfl, hp⟩)
        · have HS3 := Lib.hid (HS2.out.keep HN.out HZ2.out hk3)
          have HZ3 := Lib.hid (HZ2.out.keepW hk3)
          have HJ3 := Lib.hid hj3
          clear hj3 hz3 hk3 HS2 HZ2 HJ2
          gi_wp2
          exact ⟨⟨j + 1, x + 1, by omega, by omega, by omega, by go_num, HJ3.out, HS3.out, HNX.out, HZ3.out⟩, by simp [intOf]; omega⟩
        · gi_wp2
          exact ⟨rfl, .inr ⟨ch, rfl, hp⟩⟩
end Go.Proofs.YtjpabeoflhkfkaaGreatDoor
namespace Go.Proofs.YtjpabeoflhkfkaaGreatDoor
open Go.RowKit
attribute [local go_sem] Oper.semAt_some

theorem Tab.old {w W : World} {A : Option Addr} {rows : List NsC} (h : Tab w A rows) (hs : w.heap.size ≤ W.heap.size) (hk : ∀ b < w.heap.size, W.heap[b]? = w.heap[b]?) : Tab W A rows :=
  ⟨h.rd.same hs (fun _ _ ha => hk _ ha), fun r hr => ⟨(h.row r hr).1.same hs (fun _ _ ha => hk _ ha), (h.row r hr).2⟩⟩
theorem wfirst_two (c : Cal) (m t : Int) : (∃ x, firstR c m t = (x, 0)) ∨ firstR c m t = (0, 20) := by
  rw [firstR_eq]
  rcases nextR_cases c (firstDay c m t) with ⟨x, hx⟩ | hx
  · rw [hx]; exact .inl ⟨_, rfl⟩
  · rw [hx]; exact .inr rfl
/-- The day that a stop writes down. -/
def dayW (n : Net) (fr : Int) (s : St) : Int := dayOf (calAt n s.office.toNat) s.depart + (2 - fr)
theorem daysW_app (n : Net) (fr : Int) (pre : List St) (s : St) : daysW n fr (pre ++ [s]) = pre.map (dayW n fr) := by
  unfold daysW
  rw [List.dropLast_concat]
  rfl
theorem own_nt {base : Nat} {W : World} {v : Value} {k : Nat} {xs : List Value} (h : W.ownsRow base 3 1 v k xs) {B : Nat} {cs : Array Value} {t : TypeId} (ht : t ≠ 3) (hB : W.heap[B]? = some (.cells cs t (0, 0))) : v.ownBlock ≠ some B := by
  intro e
  rcases h.2 with ⟨rfl, -⟩ | ⟨g, cap, cur, rfl, -, hg, -⟩
  · cases e
  · cases e
    rw [hg] at hB
    cases hB
    exact ht rfl
theorem own_lt {base : Nat} {W : World} {v : Value} {k : Nat} {xs : List Value} {e : TypeId} {s : Nat} (h : W.ownsRow base e s v k xs) {g : Nat} (hg : v.ownBlock = some g) : g < W.heap.size := by
  rcases h.2 with ⟨rfl, -⟩ | ⟨g', cap, cur, rfl, -, hh, -⟩
  · cases hg
  · cases hg
    exact block_lt hh
/-- What way leaves. -/
def WayP (base : Nat) (W : World) (B : Nat) (n : Net) (fr till : Int) (nv dv v : Value) (xs : List Int) (r : Int × List Int × Int) (e : Ending) (W' : World) : Prop :=
  (r.1 = 0 ∧ e = .returned (iV r.2.2) ∧ ∃ v', WrS base W' B n fr till nv dv v' (xs ++ r.2.1) ∧ FrW B v v' W W' ∧ Below base W W') ∨ (r.1 ≠ 0 ∧ e = FailE r.1 ∧ ∃ v', FrW B v v' W W' ∧ Below base W W')
theorem Same0.belowB {w0 w w' : World} (h : Same0 w0 w) (hb : Below w0.heap.size w w') : Same0 w0 w' := ⟨Nat.le_trans h.1 hb.size, fun b hb2 => (hb.block b hb2).trans (h.2 b hb2)⟩
set_option maxHeartbeats 8000000 in
set_option maxRecDepth 100000 in
theorem way_walk (w0 : World) (B : Nat) (n : Net) (fr till : Int) (A : Option Addr) (c : Nat) (nx : List NsC) (dv v : Value) (xs : List Int) (o d : Nat) (t : Int) (W : World)
    (hn : NetIn w0 n) (hT : Tab w0 A nx) (h0 : Same0 w0 W) (hG : Good n) (hF : Formed n nx) (hW : WrS w0.heap.size W B n fr till (.slice A nx.length c) dv v xs) (hB : w0.heap.size ≤ B) (ho : o < n.offs.length) (hd : d < n.offs.length) (ht : 0 ≤ t) (ht2 : t ≤ 3000000) (hf : 0 ≤ fr ∧ fr ≤ 600) (hl : xs.length ≤ 900000000) :
    Calls Tryz.prog 81 #[.pointer (some ⟨B, 0, none⟩), iV o, iV d, iV t] W (WayP w0.heap.size W B n fr till (.slice A nx.length c) dv v xs (wayW n nx fr o d t)) := by
  have HN := Lib.hid hn
  have HT := Lib.hid hT
  have H0 := Lib.hid h0
  have HG := Lib.hid hG
  have HF := Lib.hid hF
  have HW := Lib.hid hW
  have HWY : Hid (wayR n nx d 19 o t = comb [] (wayR n nx d 19 o t)) := (comb_nil _ (wayR_nil n nx d 19 o t)).symm
  clear hn hT h0 hG hF hW
  go_enter Tryz.func81, Tryz.ntmps81
  go_wp2_with fail
  go_loopw [1, 3, 9, 10, 11, 12, 13, 14, 15, 16] (fun so st sv _ _ _ _ _ _ _ wr => ∃ (k oc : Nat) (tc : Int) (v' : Value) (pre : List St), k ≤ 19 ∧ oc < n.offs.length ∧ 0 ≤ tc ∧ tc ≤ 3000000 ∧ so = iV oc ∧ st = iV tc ∧ sv = iV ((k : Int) + 1) ∧ pre.length ≤ k ∧ WrS w0.heap.size wr B n fr till (.slice A nx.length c) dv v' (xs ++ pre.map (dayW n fr)) ∧ FrW B v v' W wr ∧ Below w0.heap.size W wr ∧ wayR n nx d 19 o t = comb pre (wayR n nx d (19 - k) oc tc)) (fun _ _ sv _ _ _ _ _ _ _ _ => 30 - (intOf sv).toNat)
  case atStart => exact ⟨0, o, t, v, [], by omega, ho, ht, ht2, rfl, rfl, rfl, Nat.le_refl _, by simpa using HW.out, FrW.refl _ _ _, Below.refl _ _, HWY.out⟩
  case round =>
  obtain ⟨k, oc, tc, v', pre, hk, hoc, ht0, ht1, rfl, rfl, rfl, hpl, hws, hfr, hbw, hwr⟩ := hrel
  have HWS := Lib.hid hws
  have HFR := Lib.hid hfr
  have HBW := Lib.hid hbw
  have HWR := Lib.hid hwr
  have HZ := Lib.hid (H0.out.belowB hbw)
  clear hws hfr hbw hwr
  by_cases hod : oc = d
  case pos =>
    subst hod
    have e1 : ((oc : Int) != (oc : Int)) = false := by simp
    have HR : Hid (wayW n nx fr o oc t = (0, pre.map (dayW n fr), tc)) := by
      show _ = _
      unfold wayW
      rw [HWR.out, wayR_at]
      show (0, daysW n fr (pre ++ [_]), (lastSt (pre ++ [_])).arrive) = _
      rw [daysW_app, last_app]
    go_wp2_with fail
    go_ret
    rw [HR.out]
    exact .inl ⟨rfl, rfl, v', HWS.out, HFR.out, HBW.out⟩
  have e1 : ((oc : Int) != (d : Int)) = true := by simpa using fun h => hod (by omega)
  have e1' : ((oc : Int) == (d : Int)) = false := by rw [beq_eq_false_iff_ne]; omega
  have HP : Hid (NetP wr B n) := ⟨HWS.out.box, HN.out.old HZ.out.1 HZ.out.2⟩
  have HTr : Hid (Tab wr A nx) := HT.out.old HZ.out.1 HZ.out.2
  obtain ⟨r, hr, hrl, -⟩ := HF.out.2 oc hoc
  obtain ⟨hrlt, -⟩ := List.getElem?_eq_some_iff.1 hr
  obtain ⟨nb, no, hnA, -, hnc⟩ := HTr.out.rd.get (i := oc) (by rw [List.length_map]; exact hrlt)
  have y1 := hnc oc _ (by rw [List.getElem?_map, hr]; rfl)
  obtain ⟨rb, ro, hrA, -, hrc⟩ := (HTr.out.row r (List.mem_of_getElem? hr)).1.get (i := d) (by rw [List.length_map, hrl]; exact hd)
  have hdl : d < r.ns.length := by rw [hrl]; exact hd
  have y2 := hrc d (iV r.ns[d]) (by simp [hdl])
  have hl2 : r.ns[d] = nxAt nx oc d := by unfold nxAt; simp [List.getD, hr, hdl]
  rw [hl2] at y2
  unfold slI at y1
  rw [hrA] at y1
  have b8 : wr.cell? ⟨B, 8, none⟩ = some (.slice A nx.length c) := cell_of_row _ _ 8 _ _ _ HWS.out.row
  rw [hnA] at b8
  have HNA := Lib.hid hnA
  have q0 : (0 : Int) ≤ (oc : Int) := by omega
  have q1 : (oc : Int) < (nx.length : Int) := by omega
  have q2 : (0 : Int) ≤ (d : Int) := by omega
  have q3 : (d : Int) < (r.ns.length : Int) := by omega
  have HLN := Lib.hid (formed_at HF.out hoc hd)
  clear hnc hrc hrA hdl hl2 hr hrl hrlt hnA
  generalize hline : nxAt nx oc d = line at *
  have HLE := Lib.hid hline; clear hline
  by_cases hno : line = -1
  · subst hno
    have HR : Hid (wayW n nx fr o d t = (170, [], 0)) := by
      show _ = _
      unfold wayW
      rw [HWR.out, wayR_no n nx d _ oc tc hod HLE.out]
      rfl
    go_wp2_with fail
    rw [HR.out]
    exact ⟨rfl, .inr ⟨by decide, rfl, v', HFR.out, HBW.out⟩⟩
  obtain ⟨g1, g2, g3⟩ := HLN.out.resolve_left hno
  obtain ⟨li, rfl⟩ : ∃ li : Nat, line = (li : Int) := ⟨line.toNat, by omega⟩
  rw [Int.toNat_natCast] at g3
  have hlil : li < n.lins.length := by omega
  have HLI := Lib.hid hlil
  have e2 : ((li : Int) == -1) = false := by rw [beq_eq_false_iff_ne]; omega
  have hlne : nxAt nx oc d ≠ -1 := by rw [HLE.out]; omega
  have HLNE := Lib.hid hlne
  have HLT : Hid ((nxAt nx oc d).toNat = li) := by show _ = _; rw [HLE.out, Int.toNat_natCast]
  obtain ⟨-, p1, p2, m1, m2⟩ := HG.out.off _ (List.mem_of_getElem? (offAt_get hoc))
  have hml := mul_small p1 p2 m1 m2
  have hrd : 0 ≤ readyR (offAt n oc) tc ∧ readyR (offAt n oc) tc ≤ 3001000 := by unfold readyR; omega
  have HRD := Lib.hid hrd
  obtain ⟨-, hto, a1, a2, v1, v2⟩ := HG.out.lin _ (List.mem_of_getElem? (linAt_get hlil))
  have HTO := Lib.hid hto
  clear g3 hlne hml hrd hto HLN
  go_wp2_with fail
  refine (wready_any B n oc _ tc _ HP.out (offAt_get hoc) p1 p2 m1 m2 (by omega) (by omega)).mono ?_
  rintro e w1 ⟨rfl, hb⟩
  have HB1 := Lib.hid hb
  clear hb b8 y1 y2
  obtain ⟨rd, hrdy⟩ : ∃ rd, rd = readyR (offAt n oc) tc := ⟨_, rfl⟩
  have HRY := Lib.hid hrdy
  rw [← hrdy]
  clear hrdy
  by_cases hbig : 2000000 < rd
  · have HR : Hid (wayW n nx fr o d t = (1, [], 0)) := by
      show _ = _
      have h2 : departR (calAt n oc) (linAt n li) (readyR (offAt n oc) tc) = (0, 1) := by
        unfold departR tOk
        rw [if_neg]
        rw [← HRY.out]
        simp
        omega
      unfold wayW
      rw [HWR.out, wayR_bad n nx d _ oc tc hod HLNE.out (by rw [HLT.out, h2]; decide), HLT.out, h2]
      rfl
    go_wp2_with fail
    rw [HR.out]
    exact ⟨rfl, .inr ⟨by decide, rfl, v', HFR.out.trans (FrW.of_below HB1.out), HBW.out.trans (HB1.out.mono HWS.out.le)⟩⟩
  have hrd0 : 0 ≤ rd := by have := HRY.out; have := HRD.out; omega
  have HDE : Hid (departR (calAt n oc) (linAt n li) (readyR (offAt n oc) tc) = firstR (calAt n oc) (linAt n li).at_ rd) := by
    show _ = _
    unfold departR tOk
    rw [← HRY.out, if_pos (by simp; omega)]
  have HP1 := Lib.hid (HP.out.below HB1.out)
  obtain ⟨-, lb, lo, hlA, hlb, hl0, hlc⟩ := elem_at encLin_len HP1.out.net.lins (linAt_get hlil) (by omega)
  have n4 : w1.cell? ⟨B, 4, none⟩ = some (.slice n.linA n.lins.length n.linC) := HP1.out.box 4 _ rfl
  rw [hlA] at n4
  have l0 : w1.cell? ⟨lb, lo + li * 6, none⟩ = some (sV (linAt n li).name) := hl0 _ rfl
  have l1 : w1.cell? ⟨lb, lo + li * 6 + 1, none⟩ = some (iV (linAt n li).frm) := hlc 1 _ rfl
  have l2 : w1.cell? ⟨lb, lo + li * 6 + 2, none⟩ = some (iV (linAt n li).to) := hlc 2 _ rfl
  have l3 : w1.cell? ⟨lb, lo + li * 6 + 3, none⟩ = some (iV (linAt n li).at_) := hlc 3 _ rfl
  have l4 : w1.cell? ⟨lb, lo + li * 6 + 4, none⟩ = some (iV (linAt n li).travel) := hlc 4 _ rfl
  have l5 : w1.cell? ⟨lb, lo + li * 6 + 5, none⟩ = some (iV (linAt n li).load) := hlc 5 _ rfl
  have q4 : (0 : Int) ≤ (li : Int) := by omega
  clear hlA hl0 hlc hlb
  go_wp2_with fail
  obtain ⟨ci, hci, hcg, hcb⟩ := HG.out.calAt hoc
  have HCI : Hid ((offAt n oc).cal = (ci : Int) ∧ n.cals[ci]? = some (calAt n oc) ∧ calB (calAt n oc) = true) := ⟨hci, hcg, hcb⟩
  clear hci hcg hcb l0 l1 l2 l3 l4 l5 n4
  have hx1 := heap_alloc_new w1 (.cells #[sV (linAt n li).name, iV (linAt n li).frm, iV (linAt n li).to, iV (linAt n li).at_, iV (linAt n li).travel, iV (linAt n li).load] 116)
  have hb1 := ba w1 (.cells #[sV (linAt n li).name, iV (linAt n li).frm, iV (linAt n li).to, iV (linAt n li).at_, iV (linAt n li).travel, iV (linAt n li).load] 116)
  refine (wcalof_any B n oc ci _ _ _ (HP1.out.below hb1) (offAt_get hoc) HCI.out.1 HCI.out.2.1).mono ?_
  rintro e w2 ⟨rfl, hb⟩
  have HX2 := Lib.hid ((hb.block _ (block_lt hx1)).trans hx1)
  have HB2 := Lib.hid (bt HB1.out (bt hb1 hb))
  clear hb hb1 hx1
  go_upto_region 12 with fail
  have hx3 := heap_alloc_new w2 (.cells #[iV (calAt n oc).zone, .slice (calAt n oc).wA (calAt n oc).week.length (calAt n oc).wc, .slice (calAt n oc).hA (calAt n oc).hol.length (calAt n oc).hc] 58)
  have hb3 := ba w2 (.cells #[iV (calAt n oc).zone, .slice (calAt n oc).wA (calAt n oc).week.length (calAt n oc).wc, .slice (calAt n oc).hA (calAt n oc).hol.length (calAt n oc).hc] 58)
  have HX3 := Lib.hid hx3
  have HL3 := Lib.hid ((hb3.block _ (block_lt HX2.out)).trans HX2.out)
  have HB3 := Lib.hid (bt HB2.out hb3)
  clear hx3 hb3 HX2 HB2
  change Code.wp _ _ _ _ (w2.alloc (.cells #[iV (calAt n oc).zone, .slice (calAt n oc).wA (calAt n oc).week.length (calAt n oc).wc, .slice (calAt n oc).hA (calAt n oc).hol.length (calAt n oc).hc] 58))
  generalize (w2.alloc (.cells #[iV (calAt n oc).zone, .slice (calAt n oc).wA (calAt n oc).week.length (calAt n oc).wc, .slice (calAt n oc).hA (calAt n oc).hol.length (calAt n oc).hc] 58)) = W3 at *
  generalize w2.heap.size = Z3 at *
  generalize w1.heap.size = Z1 at *
  have z0 : W3.cell? ⟨Z3, 0, none⟩ = some (iV (calAt n oc).zone) := cell_of_row _ _ 0 _ _ _ HX3.out
  have z1 : W3.cell? ⟨Z3, 1, none⟩ = some (.slice (calAt n oc).wA (calAt n oc).week.length (calAt n oc).wc) := cell_of_row _ _ 1 _ _ _ HX3.out
  have z2 : W3.cell? ⟨Z3, 2, none⟩ = some (.slice (calAt n oc).hA (calAt n oc).hol.length (calAt n oc).hc) := cell_of_row _ _ 2 _ _ _ HX3.out
  have x3 : W3.cell? ⟨Z1, 3, none⟩ = some (iV (linAt n li).at_) := cell_of_row _ _ 3 _ _ _ HL3.out
  have hrdt : rd ≤ 2000000 := by omega
  go_wp2_with fail
  have hcal : CalIn W3 (calAt n oc) := ((HP.out.below HB3.out).net.cal _ (List.mem_of_getElem? HCI.out.2.1))
  have HCA := Lib.hid hcal
  refine (wfirst_any (calAt n oc) (linAt n li).at_ rd _ hcal HCI.out.2.2 a1 a2 (by omega) (by omega)).mono ?_
  rintro e w4 ⟨rfl, hb⟩
  have HB4 := Lib.hid (bt HB3.out hb)
  have HX4 := Lib.hid ((hb.block _ (block_lt HX3.out)).trans HX3.out)
  have HL4 := Lib.hid ((hb.block _ (block_lt HL3.out)).trans HL3.out)
  have HCA4 := Lib.hid (HCA.out.below hb)
  clear hb hcal z0 z1 z2 x3 HCA HX3 HL3
  rcases wfirst_two (calAt n oc) (linAt n li).at_ rd with ⟨lv, hlv⟩ | hlv
  case inr =>
    have HR : Hid (wayW n nx fr o d t = (20, [], 0)) := by
      show _ = _
      have h2 : departR (calAt n oc) (linAt n li) (readyR (offAt n oc) tc) = (0, 20) := HDE.out.trans hlv
      unfold wayW
      rw [HWR.out, wayR_bad n nx d _ oc tc hod HLNE.out (by rw [HLT.out, h2]; decide), HLT.out, h2]
      rfl
    rw [hlv]
    clear hlv
    go_wp2_with fail
    refine (wmust_no 0 20 _ (by decide)).mono ?_
    rintro e w5 ⟨rfl, rfl⟩
    go_wp2_with fail
    rw [HR.out]
    exact ⟨rfl, .inr ⟨by decide, rfl, v', HFR.out.trans (FrW.of_below HB4.out), HBW.out.trans (HB4.out.mono HWS.out.le)⟩⟩
  have hdp : departR (calAt n oc) (linAt n li) (readyR (offAt n oc) tc) = (lv, 0) := HDE.out.trans hlv
  have hli := departR_in a1 a2 hdp
  have HDP := Lib.hid hdp
  have HLV : Hid (0 ≤ lv ∧ lv ≤ 2100000) := by
    have := HRY.out
    exact ⟨by omega, by omega⟩
  rw [hlv]
  clear hlv hdp hli
  go_wp2_with fail
  refine (wmust_yes lv _).mono ?_
  rintro e w5 ⟨rfl, rfl⟩
  by_cases hk19 : k = 19
  · subst hk19
    have HR : Hid (wayW n nx fr o d t = (170, [], 0)) := by
      show _ = _
      unfold wayW
      rw [HWR.out, wayR_last n nx d oc tc hod HLNE.out (by rw [HLT.out, HDP.out])]
      rfl
    go_wp2_with fail
    rw [HR.out]
    exact ⟨rfl, .inr ⟨by decide, rfl, v', HFR.out.trans (FrW.of_below HB4.out), HBW.out.trans (HB4.out.mono HWS.out.le)⟩⟩
  have k20 : ((k : Int) + 1 == 20) = false := by rw [beq_eq_false_iff_ne]; omega
  have k20' : ¬ (k : Int) + 1 = 20 := by omega
  have z0 : w4.cell? ⟨Z3, 0, none⟩ = some (iV (calAt n oc).zone) := cell_of_row _ _ 0 _ _ _ HX4.out
  have z1 : w4.cell? ⟨Z3, 1, none⟩ = some (.slice (calAt n oc).wA (calAt n oc).week.length (calAt n oc).wc) := cell_of_row _ _ 1 _ _ _ HX4.out
  have z2 : w4.cell? ⟨Z3, 2, none⟩ = some (.slice (calAt n oc).hA (calAt n oc).hol.length (calAt n oc).hc) := cell_of_row _ _ 2 _ _ _ HX4.out
  go_wp2_with fail
  refine (local_any (calAt n oc) lv _ HCA4.out HCI.out.2.2 (by have := HLV.out; omega) (by have := HLV.out; omega)).mono ?_
  rintro e w5 ⟨rfl, hb⟩
  have HB5 := Lib.hid (bt HB4.out hb)
  have HL5 := Lib.hid ((hb.block _ (block_lt HL4.out)).trans HL4.out)
  have HW5 := Lib.hid (HWS.out.below HB5.out)
  clear hb z0 z1 z2 HX4 HL4 HCA4 HB4 HB3 HB1 HP1 k20 k20'
  have hzn := calB_zone HCI.out.2.2
  have hdy : -2000 ≤ dayOf (calAt n oc) lv ∧ dayOf (calAt n oc) lv ≤ 3000 := by
    have := HLV.out
    unfold dayOf
    omega
  have HDY : Hid (dayW n fr ⟨oc, tc, lv, li⟩ = dayOf (calAt n oc) lv + (2 - fr)) := by
    show _ = _
    unfold dayW
    rw [Int.toNat_natCast]
  generalize hday : dayOf (calAt n oc) lv = day at *
  have b6 : w5.cell? ⟨B, 6, none⟩ = some (iV fr) := cell_of_row _ _ 6 _ _ _ HW5.out.row
  have wf : IntKind.i64.wrap (2 - fr) = 2 - fr := IntWalk.i64_in _ (by omega)
  clear hzn hday
  go_wp2_with fail
  have hbn := ba w5 (.cells #[iV day] 3)
  have hlt5 : w5.heap.size < (w5.alloc (.cells #[iV day] 3)).heap.size := by simp
  refine (raised_any w0.heap.size B n fr till (2 - fr) (.slice A nx.length c) dv v' (xs ++ pre.map (dayW n fr)) [day] (some ⟨w5.heap.size, 0, none⟩) 1 _ (HW5.out.below hbn) hB (by simp; omega) (Rd.new w5 [iV day] 3) (fun a ha => by
    cases ha
    have := block_lt HW5.out.row
    exact ⟨by show w5.heap.size ≠ B; omega, fun e => by have h9 : w5.heap.size < w5.heap.size := own_lt HW5.out.own e; omega⟩) (by omega) (fun y hy => by simp at hy; subst hy; omega)).mono ?_
  rintro e w6 ⟨rfl, v2, hws, hfr, hbw⟩
  have HW6 := Lib.hid hws
  have HFR6 := Lib.hid (HFR.out.trans ((FrW.of_below HB5.out).trans ((FrW.of_below hbn).trans hfr)))
  have HBW6 := Lib.hid ((HBW.out.trans ((HB5.out.trans (hbn.mono HB5.out.size)).mono HWS.out.le)).trans hbw)
  have hl6 : w6.heap[Z1]? = some (.cells #[sV (linAt n li).name, iV (linAt n li).frm, iV (linAt n li).to, iV (linAt n li).at_, iV (linAt n li).travel, iV (linAt n li).load] 116 (0, 0)) := by
    have hz := (hbn.block _ (block_lt HL5.out)).trans HL5.out
    refine (hfr.2 Z1 (block_lt hz) (fun e => ?_) (own_nt (HW5.out.below hbn).own (by decide) hz)).1.trans hz
    subst e
    have h2 := (HW5.out.below hbn).row
    rw [hz] at h2
    cases h2
  obtain ⟨tn, htn⟩ : ∃ tn : Nat, (linAt n li).to = (tn : Int) := ⟨(linAt n li).to.toNat, by have := HTO.out; omega⟩
  have x2 : w6.cell? ⟨Z1, 2, none⟩ = some (iV (linAt n li).to) := cell_of_row _ _ 2 _ _ _ hl6
  have x4 : w6.cell? ⟨Z1, 4, none⟩ = some (iV (linAt n li).travel) := cell_of_row _ _ 4 _ _ _ hl6
  rw [htn] at x2
  have HTN := Lib.hid htn
  have HNX : Hid (wayR n nx d 19 o t = comb (pre ++ [⟨oc, tc, lv, li⟩]) (wayR n nx d (19 - (k + 1)) tn (lv + (linAt n li).travel))) := by
    show _ = _
    rw [HWR.out, show 19 - k = 19 - (k + 1) + 1 by omega, wayR_next n nx d _ oc tc hod HLNE.out (by rw [HLT.out, HDP.out]), HLT.out, HDP.out, HTN.out, Int.toNat_natCast, HLE.out]
  have hlv := HLV.out
  have wl : IntKind.i64.wrap (lv + (linAt n li).travel) = lv + (linAt n li).travel := IntWalk.i64_in _ (by omega)
  clear hws hfr hbw hbn hl6 htn b6 wf HL5
  go_wp2_with fail
  go_quiet (fail)
  go_wp2_with fail
  go_roundw
  case rel =>
    have hdr := below_drewN (Below.refl w6.heap.size w6) nq
    refine ⟨k + 1, tn, lv + (linAt n li).travel, v2, pre ++ [⟨oc, tc, lv, li⟩], by omega, by have := HTO.out; have := HTN.out; omega, by omega, by omega, rfl, by go_num, by go_num, by simp; omega, ?_, HFR6.out.trans (FrW.of_below hdr), HBW6.out.trans (hdr.mono HW6.out.le), HNX.out⟩
    have h := HW6.out.below hdr
    rw [List.append_assoc] at h
    rw [List.map_append, List.map_singleton, HDY.out]
    exact h
  case measure => simp [intOf]; omega
end Go.Proofs.YtjpabeoflhkfkaaGreatDoor
namespace Go.Proofs.YtjpabeoflhkfkaaGreatDoor
open Go.RowKit
attribute [local go_sem] Oper.semAt_some

def CutW (w : World) (n : Net) (B o k : Nat) (fr till : Int) (e : Ending) (w' : World) : Prop :=
  ∃ P2 P3 P4, e = .returned (.func (.func 124) #[] #[.pointer (some ⟨P2, 0, none⟩), .pointer (some ⟨P3, 0, none⟩), .pointer (some ⟨P4, 0, none⟩)]) ∧ CuW w' n B P2 P3 P4 o k fr till ∧ Below w.heap.size w w' ∧ ∀ b, b = P2 ∨ b = P3 ∨ b = P4 → w.heap.size ≤ b
set_option maxHeartbeats 2000000 in
set_option maxRecDepth 100000 in
theorem wcutoffs_any (B : Nat) (n : Net) (o k : Nat) (fr till : Int) (w : World) (hN : NetP w B n) (h6 : w.cell? ⟨B, 6, none⟩ = some (iV fr)) (h7 : w.cell? ⟨B, 7, none⟩ = some (iV till)) :
    Calls Tryz.prog 80 #[.pointer (some ⟨B, 0, none⟩), iV k, iV o] w (CutW w n B o k fr till) := by
  have HN := Lib.hid hN
  have H67 := Lib.hid (And.intro h6 h7)
  clear hN h6 h7
  go_enter Tryz.func80, Tryz.ntmps80
  go_wp2
  go_ret
  have hb : Below w.heap.size w (((w.alloc (.cells #[.pointer (some ⟨B, 0, none⟩)] 85)).alloc (.cells #[iV k] 3)).alloc (.cells #[iV o] 3)) :=
    (((Below.refl _ w).alloc (Nat.le_refl _) _).alloc (by simp) _).alloc (by simp; omega) _
  have c2 : (w.alloc (.cells #[.pointer (some ⟨B, 0, none⟩)] 85)).heap[w.heap.size]? = some (.cells #[.pointer (some ⟨B, 0, none⟩)] 85) := heap_alloc_new _ _
  have c4 := heap_alloc_new (w.alloc (.cells #[.pointer (some ⟨B, 0, none⟩)] 85)) (.cells #[iV k] 3)
  have c3 := heap_alloc_new ((w.alloc (.cells #[.pointer (some ⟨B, 0, none⟩)] 85)).alloc (.cells #[iV k] 3)) (.cells #[iV o] 3)
  simp only [World.size_alloc] at c3 c4
  have hlt := HN.out.lt
  refine ⟨_, _, _, rfl, ⟨HN.out.below hb, ?_, ?_, ?_, ?_, ?_⟩, hb, ?_⟩
  · exact cell_of_row _ _ 0 _ _ _ ((Below.heap_alloc _ _ _ (by simp; omega)).trans ((Below.heap_alloc _ _ _ (by simp)).trans c2))
  · exact cell_of_row _ _ 0 _ _ _ c3
  · exact cell_of_row _ _ 0 _ _ _ ((Below.heap_alloc _ _ _ (by simp)).trans c4)
  · exact (hb.cell (p := ⟨B, 6, none⟩) hlt).trans H67.out.1
  · exact (hb.cell (p := ⟨B, 7, none⟩) hlt).trans H67.out.2
  · intro b hb
    omega
end Go.Proofs.YtjpabeoflhkfkaaGreatDoor
