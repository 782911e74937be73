/- The walks over check's third rule. The walks over the survey's names -/
import Derived.Test.YtpeaiphdkgifaaaGreatDoorVqProRules2
import Derived.Laws.EntriesVeiled
import Derived.Laws.Rows
namespace Go.Proofs.YtpeaiphdkgifaaaGreatDoor
open Go.RowKit
set_option maxHeartbeats 20000000
set_option maxRecDepth 100000
def nN (s : List UInt8) : List Value := [sV s]
abbrev opV (s : List UInt8) : Value := .agg #[sV s]
theorem nM (s : List UInt8) : (nN s).length = 1 := rfl
theorem kU (l : List (List UInt8)) : l.flatMap nN = l.map sV := by
 induction l with
 | nil => rfl
 | cons a l ih => rw [List.flatMap_cons, ih]; rfl
def ii {α : Type} (g : FuncId) (gb : Array Value) (V : α -> Value) (L : List α) (gd : α -> Bool) (w : World) : Prop :=
 ∀ x ∈ L, ∀ w', Below w.heap.size w w' -> Calls Tryz.prog g (#[V x] ++ gb) w' fun e w2 => e = .returned (.bool (gd x)) /\ Below w'.heap.size w' w2
theorem ii.below {α : Type} {g : FuncId} {gb : Array Value} {V : α -> Value} {L : List α} {gd : α -> Bool} {w w1 : World} (h : ii g gb V L gd w) (hb : Below w.heap.size w w1) : ii g gb V L gd w1 :=
 fun x hx w' hb' => h x hx w' (bt hb hb')
theorem ti (g : FuncId) (gb : Array Value) (gd : Cal -> Bool) (L : List (Cal)) (A : Option Addr) (c i P Q : Nat) (x : Cal) (w : World) (hg : ii g gb (fun x : Cal => eI x) L gd w) (_hl : L.length <= maxLen) (hR : Rd w A (L.flatMap dZ)) (hx : L[i]? = some x)
  (hp : w.cell? (aV P 0) = some (.func (.func g) #[] gb)) (hq : w.cell? (aV Q 0) = some (.slice A L.length c)) (eg : ∀ args w, (callFunc g args).run Tryz.prog w = .ok (.enter g args) w) :
  Calls Tryz.prog 155 #[iV i, .pointer (some (aV P 0)), .pointer (some (aV Q 0))] w fun e w' => e = .returned (iV (jG (gd x))) /\ Below w.heap.size w w' := by
 unfold maxLen at _hl
 have HG := aB (hg x (aF hx)); clear hg
 obtain ⟨hlt, b, off, hA, hbl, hc0, hc⟩ := ay fp hR hx (by omega)
 have x0 := hc0 _ rfl
 have x1 := hc 1 _ rfl
 have x2 := hc 2 _ rfl
 rw [hA] at hq
 have HP := aB hp
 have hPl := aM w _ hp
 have hQl := aM w _ hq
 have HS : Hid (∀ w', Below w.heap.size w w' -> w'.cell? (aV P 0) = some (.func (.func g) #[] gb) /\ w'.cell? (aV Q 0) = some (.slice (some (aV b off)) L.length c) /\ w'.cell? (aV b (off + i * 3)) = some (iV x.zone) /\ w'.cell? (aV b (off + i * 3 + 1)) = some (.slice x.wA x.week.length x.wc) /\ w'.cell? (aV b (off + i * 3 + 2)) = some (.slice x.hA x.hol.length x.hc)) := fun w' hb => ⟨(hb.cell (p := (aV P 0)) hPl).trans hp, (hb.cell (p := (aV Q 0)) hQl).trans hq, (hb.cell (p := (aV b _)) hbl).trans x0, (hb.cell (p := (aV b _)) hbl).trans x1, (hb.cell (p := (aV b _)) hbl).trans x2⟩
 have j1 : (0 : Int) <= (i : Int) := by omega
 have j2 : (i : Int) < (L.length : Int) := by omega
 clear hc0 hc hR hA hx hbl
 cases hd : gd x
 all_goals
  have HD := aB hd; clear hd
  go_enter Tryz.func155, Tryz.ntmps155
  go_wp2_with fail
  go_region_held3 (fun w' => w'.cell? (aV P 0) = some (.func (.func g) #[] gb) /\ w'.cell? (aV Q 0) = some (.slice (some (aV b off)) L.length c) /\ w'.cell? (aV b (off + i * 3)) = some (iV x.zone) /\ w'.cell? (aV b (off + i * 3 + 1)) = some (.slice x.wA x.week.length x.wc) /\ w'.cell? (aV b (off + i * 3 + 2)) = some (.slice x.hA x.hol.length x.hc)) (first | (with_reducible exact HS.out _ (al (aJ _ _))) | (with_reducible exact HS.out _ HB.out)) ((refine (HG.out _ (al (aJ _ _))).mono ?_; rintro e w2 ⟨rfl, hb⟩; have HB := aB (bdr hb); clear hb; rw [HD.out]))
  go_wp2_with fail
  go_ret
  exact ⟨rfl, HB.out⟩
theorem vl (g : FuncId) (gb : Array Value) (gd : List UInt8 -> Bool) (L : List (List UInt8)) (A : Option Addr) (c i P Q : Nat) (x : List UInt8) (w : World) (hg : ii g gb (fun x : List UInt8 => opV x) L gd w) (_hl : L.length <= maxLen) (hR : Rd w A (L.flatMap nN)) (hx : L[i]? = some x)
  (hp : w.cell? (aV P 0) = some (.func (.func g) #[] gb)) (hq : w.cell? (aV Q 0) = some (.slice A L.length c)) (eg : ∀ args w, (callFunc g args).run Tryz.prog w = .ok (.enter g args) w) :
  Calls Tryz.prog 158 #[iV i, .pointer (some (aV P 0)), .pointer (some (aV Q 0))] w fun e w' => e = .returned (iV (jG (gd x))) /\ Below w.heap.size w w' := by
 unfold maxLen at _hl
 have HG := aB (hg x (aF hx)); clear hg
 obtain ⟨hlt, b, off, hA, hbl, hc0, hc⟩ := ay nM hR hx (by omega)
 have x0 := hc0 _ rfl
 rw [Nat.mul_one] at x0
 rw [hA] at hq
 have HP := aB hp
 have hPl := aM w _ hp
 have hQl := aM w _ hq
 have HS : Hid (∀ w', Below w.heap.size w w' -> w'.cell? (aV P 0) = some (.func (.func g) #[] gb) /\ w'.cell? (aV Q 0) = some (.slice (some (aV b off)) L.length c) /\ w'.cell? (aV b (off + i)) = some (sV x)) := fun w' hb => ⟨(hb.cell (p := (aV P 0)) hPl).trans hp, (hb.cell (p := (aV Q 0)) hQl).trans hq, (hb.cell (p := (aV b _)) hbl).trans x0⟩
 have j1 : (0 : Int) <= (i : Int) := by omega
 have j2 : (i : Int) < (L.length : Int) := by omega
 clear hc0 hc hR hA hx hbl
 cases hd : gd x
 all_goals
  have HD := aB hd; clear hd
  go_enter Tryz.func158, Tryz.ntmps158
  go_wp2_with fail
  go_region_held3 (fun w' => w'.cell? (aV P 0) = some (.func (.func g) #[] gb) /\ w'.cell? (aV Q 0) = some (.slice (some (aV b off)) L.length c) /\ w'.cell? (aV b (off + i)) = some (sV x)) (first | (with_reducible exact HS.out _ (al (aJ _ _))) | (with_reducible exact HS.out _ HB.out)) ((refine (HG.out _ (al (aJ _ _))).mono ?_; rintro e w2 ⟨rfl, hb⟩; have HB := aB (bdr hb); clear hb; rw [HD.out]))
  go_wp2_with fail
  go_ret
  exact ⟨rfl, HB.out⟩
theorem tf (g : FuncId) (gb : Array Value) (gd : Off -> Bool) (L : List (Off)) (A : Option Addr) (c i P Q : Nat) (x : Off) (w : World) (hg : ii g gb (fun x : Off => tP x) L gd w) (_hl : L.length <= maxLen) (hR : Rd w A (L.flatMap jb)) (hx : L[i]? = some x)
  (hp : w.cell? (aV P 0) = some (.func (.func g) #[] gb)) (hq : w.cell? (aV Q 0) = some (.slice A L.length c)) (eg : ∀ args w, (callFunc g args).run Tryz.prog w = .ok (.enter g args) w) :
  Calls Tryz.prog 161 #[iV i, .pointer (some (aV P 0)), .pointer (some (aV Q 0))] w fun e w' => e = .returned (iV (jG (gd x))) /\ Below w.heap.size w w' := by
 unfold maxLen at _hl
 have HG := aB (hg x (aF hx)); clear hg
 obtain ⟨hlt, b, off, hA, hbl, hc0, hc⟩ := ay cQ hR hx (by omega)
 have x0 := hc0 _ rfl
 have x1 := hc 1 _ rfl
 have x2 := hc 2 _ rfl
 have x3 := hc 3 _ rfl
 have x4 := hc 4 _ rfl
 have x5 := hc 5 _ rfl
 have x6 := hc 6 _ rfl
 rw [hA] at hq
 have HP := aB hp
 have hPl := aM w _ hp
 have hQl := aM w _ hq
 have HS : Hid (∀ w', Below w.heap.size w w' -> w'.cell? (aV P 0) = some (.func (.func g) #[] gb) /\ w'.cell? (aV Q 0) = some (.slice (some (aV b off)) L.length c) /\ w'.cell? (aV b (off + i * 7)) = some (sV x.name) /\ w'.cell? (aV b (off + i * 7 + 1)) = some (iV x.op) /\ w'.cell? (aV b (off + i * 7 + 2)) = some (iV x.cal) /\ w'.cell? (aV b (off + i * 7 + 3)) = some (iV x.pockets) /\ w'.cell? (aV b (off + i * 7 + 4)) = some (iV x.passes) /\ w'.cell? (aV b (off + i * 7 + 5)) = some (iV x.minutes) /\ w'.cell? (aV b (off + i * 7 + 6)) = some (.slice x.cA x.codes.length x.cc)) := fun w' hb => ⟨(hb.cell (p := (aV P 0)) hPl).trans hp, (hb.cell (p := (aV Q 0)) hQl).trans hq, (hb.cell (p := (aV b _)) hbl).trans x0, (hb.cell (p := (aV b _)) hbl).trans x1, (hb.cell (p := (aV b _)) hbl).trans x2, (hb.cell (p := (aV b _)) hbl).trans x3, (hb.cell (p := (aV b _)) hbl).trans x4, (hb.cell (p := (aV b _)) hbl).trans x5, (hb.cell (p := (aV b _)) hbl).trans x6⟩
 have j1 : (0 : Int) <= (i : Int) := by omega
 have j2 : (i : Int) < (L.length : Int) := by omega
 clear hc0 hc hR hA hx hbl
 cases hd : gd x
 all_goals
  have HD := aB hd; clear hd
  go_enter Tryz.func161, Tryz.ntmps161
  go_wp2_with fail
  go_region_held3 (fun w' => w'.cell? (aV P 0) = some (.func (.func g) #[] gb) /\ w'.cell? (aV Q 0) = some (.slice (some (aV b off)) L.length c) /\ w'.cell? (aV b (off + i * 7)) = some (sV x.name) /\ w'.cell? (aV b (off + i * 7 + 1)) = some (iV x.op) /\ w'.cell? (aV b (off + i * 7 + 2)) = some (iV x.cal) /\ w'.cell? (aV b (off + i * 7 + 3)) = some (iV x.pockets) /\ w'.cell? (aV b (off + i * 7 + 4)) = some (iV x.passes) /\ w'.cell? (aV b (off + i * 7 + 5)) = some (iV x.minutes) /\ w'.cell? (aV b (off + i * 7 + 6)) = some (.slice x.cA x.codes.length x.cc)) (first | (with_reducible exact HS.out _ (al (aJ _ _))) | (with_reducible exact HS.out _ HB.out)) ((refine (HG.out _ (al (aJ _ _))).mono ?_; rintro e w2 ⟨rfl, hb⟩; have HB := aB (bdr hb); clear hb; rw [HD.out]))
  go_wp2_with fail
  go_ret
  exact ⟨rfl, HB.out⟩
theorem tg (g : FuncId) (gb : Array Value) (gd : Lin -> Bool) (L : List (Lin)) (A : Option Addr) (c i P Q : Nat) (x : Lin) (w : World) (hg : ii g gb (fun x : Lin => ud x) L gd w) (_hl : L.length <= maxLen) (hR : Rd w A (L.flatMap kV)) (hx : L[i]? = some x)
  (hp : w.cell? (aV P 0) = some (.func (.func g) #[] gb)) (hq : w.cell? (aV Q 0) = some (.slice A L.length c)) (eg : ∀ args w, (callFunc g args).run Tryz.prog w = .ok (.enter g args) w) :
  Calls Tryz.prog 168 #[iV i, .pointer (some (aV P 0)), .pointer (some (aV Q 0))] w fun e w' => e = .returned (iV (jG (gd x))) /\ Below w.heap.size w w' := by
 unfold maxLen at _hl
 have HG := aB (hg x (aF hx)); clear hg
 obtain ⟨hlt, b, off, hA, hbl, hc0, hc⟩ := ay bT hR hx (by omega)
 have x0 := hc0 _ rfl
 have x1 := hc 1 _ rfl
 have x2 := hc 2 _ rfl
 have x3 := hc 3 _ rfl
 have x4 := hc 4 _ rfl
 have x5 := hc 5 _ rfl
 rw [hA] at hq
 have HP := aB hp
 have hPl := aM w _ hp
 have hQl := aM w _ hq
 have HS : Hid (∀ w', Below w.heap.size w w' -> w'.cell? (aV P 0) = some (.func (.func g) #[] gb) /\ w'.cell? (aV Q 0) = some (.slice (some (aV b off)) L.length c) /\ w'.cell? (aV b (off + i * 6)) = some (sV x.name) /\ w'.cell? (aV b (off + i * 6 + 1)) = some (iV x.frm) /\ w'.cell? (aV b (off + i * 6 + 2)) = some (iV x.to) /\ w'.cell? (aV b (off + i * 6 + 3)) = some (iV x.at_) /\ w'.cell? (aV b (off + i * 6 + 4)) = some (iV x.travel) /\ w'.cell? (aV b (off + i * 6 + 5)) = some (iV x.load)) := fun w' hb => ⟨(hb.cell (p := (aV P 0)) hPl).trans hp, (hb.cell (p := (aV Q 0)) hQl).trans hq, (hb.cell (p := (aV b _)) hbl).trans x0, (hb.cell (p := (aV b _)) hbl).trans x1, (hb.cell (p := (aV b _)) hbl).trans x2, (hb.cell (p := (aV b _)) hbl).trans x3, (hb.cell (p := (aV b _)) hbl).trans x4, (hb.cell (p := (aV b _)) hbl).trans x5⟩
 have j1 : (0 : Int) <= (i : Int) := by omega
 have j2 : (i : Int) < (L.length : Int) := by omega
 clear hc0 hc hR hA hx hbl
 cases hd : gd x
 all_goals
  have HD := aB hd; clear hd
  go_enter Tryz.func168, Tryz.ntmps168
  go_wp2_with fail
  go_region_held3 (fun w' => w'.cell? (aV P 0) = some (.func (.func g) #[] gb) /\ w'.cell? (aV Q 0) = some (.slice (some (aV b off)) L.length c) /\ w'.cell? (aV b (off + i * 6)) = some (sV x.name) /\ w'.cell? (aV b (off + i * 6 + 1)) = some (iV x.frm) /\ w'.cell? (aV b (off + i * 6 + 2)) = some (iV x.to) /\ w'.cell? (aV b (off + i * 6 + 3)) = some (iV x.at_) /\ w'.cell? (aV b (off + i * 6 + 4)) = some (iV x.travel) /\ w'.cell? (aV b (off + i * 6 + 5)) = some (iV x.load)) (first | (with_reducible exact HS.out _ (al (aJ _ _))) | (with_reducible exact HS.out _ HB.out)) ((refine (HG.out _ (al (aJ _ _))).mono ?_; rintro e w2 ⟨rfl, hb⟩; have HB := aB (bdr hb); clear hb; rw [HD.out]))
  go_wp2_with fail
  go_ret
  exact ⟨rfl, HB.out⟩
theorem th (g : FuncId) (gb : Array Value) (gd : Cls -> Bool) (L : List (Cls)) (A : Option Addr) (c i P Q : Nat) (x : Cls) (w : World) (hg : ii g gb (fun x : Cls => clsV x) L gd w) (_hl : L.length <= maxLen) (hR : Rd w A (L.flatMap kW)) (hx : L[i]? = some x)
  (hp : w.cell? (aV P 0) = some (.func (.func g) #[] gb)) (hq : w.cell? (aV Q 0) = some (.slice A L.length c)) (eg : ∀ args w, (callFunc g args).run Tryz.prog w = .ok (.enter g args) w) :
  Calls Tryz.prog 172 #[iV i, .pointer (some (aV P 0)), .pointer (some (aV Q 0))] w fun e w' => e = .returned (iV (jG (gd x))) /\ Below w.heap.size w w' := by
 unfold maxLen at _hl
 have HG := aB (hg x (aF hx)); clear hg
 obtain ⟨hlt, b, off, hA, hbl, hc0, hc⟩ := ay dh hR hx (by omega)
 have x0 := hc0 _ rfl
 have x1 := hc 1 _ rfl
 have x2 := hc 2 _ rfl
 rw [hA] at hq
 have HP := aB hp
 have hPl := aM w _ hp
 have hQl := aM w _ hq
 have HS : Hid (∀ w', Below w.heap.size w w' -> w'.cell? (aV P 0) = some (.func (.func g) #[] gb) /\ w'.cell? (aV Q 0) = some (.slice (some (aV b off)) L.length c) /\ w'.cell? (aV b (off + i * 3)) = some (sV x.name) /\ w'.cell? (aV b (off + i * 3 + 1)) = some (iV x.cut) /\ w'.cell? (aV b (off + i * 3 + 2)) = some (iV x.deliver)) := fun w' hb => ⟨(hb.cell (p := (aV P 0)) hPl).trans hp, (hb.cell (p := (aV Q 0)) hQl).trans hq, (hb.cell (p := (aV b _)) hbl).trans x0, (hb.cell (p := (aV b _)) hbl).trans x1, (hb.cell (p := (aV b _)) hbl).trans x2⟩
 have j1 : (0 : Int) <= (i : Int) := by omega
 have j2 : (i : Int) < (L.length : Int) := by omega
 clear hc0 hc hR hA hx hbl
 cases hd : gd x
 all_goals
  have HD := aB hd; clear hd
  go_enter Tryz.func172, Tryz.ntmps172
  go_wp2_with fail
  go_region_held3 (fun w' => w'.cell? (aV P 0) = some (.func (.func g) #[] gb) /\ w'.cell? (aV Q 0) = some (.slice (some (aV b off)) L.length c) /\ w'.cell? (aV b (off + i * 3)) = some (sV x.name) /\ w'.cell? (aV b (off + i * 3 + 1)) = some (iV x.cut) /\ w'.cell? (aV b (off + i * 3 + 2)) = some (iV x.deliver)) (first | (with_reducible exact HS.out _ (al (aJ _ _))) | (with_reducible exact HS.out _ HB.out)) ((refine (HG.out _ (al (aJ _ _))).mono ?_; rintro e w2 ⟨rfl, hb⟩; have HB := aB (bdr hb); clear hb; rw [HD.out]))
  go_wp2_with fail
  go_ret
  exact ⟨rfl, HB.out⟩
def eM (n : Net) (i : Nat) : List UInt8 := n.names.getD i []
def pR (n : Net) (i : Nat) : List UInt8 := n.ops.getD i []
def kp (n : Net) (i : Nat) : List UInt8 := (ap n i).name
def kq (n : Net) (i : Nat) : List UInt8 := (af n i).name
def kr (n : Net) (i : Nat) : List UInt8 := (aw n i).name
theorem lJ (X : Nat) (n : Net) (i : Nat) (w : World) (h : br w X n) :
  Calls Tryz.prog 109 #[iV i, .pointer (some (aV X 0))] w fun e w' => e = .returned (sV (eM n i)) /\ Below w.heap.size w w' := by
 have n1 : w.cell? (aV X 1) = some (.slice n.namA n.names.length n.namC) := h.box 1 _ rfl
 have hl := h.net.lens.2.1
 unfold maxLen at hl
 by_cases hi : i < n.names.length
 ·obtain ⟨b, off, hA, -, hc⟩ := h.net.names.get (i := i) (by rw [List.length_map]; exact hi)
  have x0 : w.cell? (aV b (off + i)) = some (sV (eM n i)) := hc i _ (by unfold eM; simp [List.getD, hi])
  rw [hA] at n1
  have j1 : (0 : Int) <= (i : Int) := by omega
  have j2 : (i : Int) < (n.names.length : Int) := by omega
  clear h hc hA
  go_enter Tryz.func109, Tryz.ntmps109
  go_wp2_with fail
  go_ret
  exact ⟨rfl, aJ _ _⟩
 ·have j2 : ¬ (i : Int) < (n.names.length : Int) := by omega
  have HR : Hid (eM n i = []) := by show _ = _; unfold eM; simp [List.getD, hi]
  clear h
  go_enter Tryz.func109, Tryz.ntmps109
  go_wp2_with fail
  go_ret
  exact ⟨by rw [HR.out]; rfl, aJ _ _⟩
theorem mt (X : Nat) (n : Net) (i : Nat) (w : World) (h : br w X n) (hi : i < n.ops.length) :
  Calls Tryz.prog 112 #[iV i, .pointer (some (aV X 0))] w fun e w' => e = .returned (sV (pR n i)) /\ Below w.heap.size w w' := by
 have n1 : w.cell? (aV X 2) = some (.slice n.opA n.ops.length n.opC) := h.box 2 _ rfl
 have hl := h.net.lens.2.2.1
 unfold maxLen at hl
 obtain ⟨b, off, hA, -, hc⟩ := h.net.ops.get (i := i) (by rw [List.length_map]; exact hi)
 have x0 : w.cell? (aV b (off + i)) = some (sV (pR n i)) := hc i _ (by unfold pR; simp [List.getD, hi])
 rw [hA] at n1
 have j1 : (0 : Int) <= (i : Int) := by omega
 have j2 : (i : Int) < (n.ops.length : Int) := by omega
 clear h hc hA
 go_enter Tryz.func112, Tryz.ntmps112
 go_wp2_with fail
 go_ret
 exact ⟨rfl, aJ _ _⟩
theorem lr (X : Nat) (n : Net) (i : Nat) (w : World) (h : br w X n) (hi : i < n.offs.length) :
  Calls Tryz.prog 115 #[iV i, .pointer (some (aV X 0))] w fun e w' => e = .returned (sV (kp n i)) /\ Below w.heap.size w w' := by
 have n1 : w.cell? (aV X 3) = some (.slice n.offA n.offs.length n.offC) := h.box 3 _ rfl
 have hl := h.net.lens.2.2.2.1
 unfold maxLen at hl
 obtain ⟨-, b, off, hA, -, hc, -⟩ := ay cQ h.net.offs (bd hi) (by omega)
 have x0 : w.cell? (aV b (off + i * 7)) = some (sV (kp n i)) := hc _ rfl
 rw [hA] at n1
 have j1 : (0 : Int) <= (i : Int) := by omega
 have j2 : (i : Int) < (n.offs.length : Int) := by omega
 clear h hc hA
 go_enter Tryz.func115, Tryz.ntmps115
 go_wp2_with fail
 go_ret
 exact ⟨rfl, aJ _ _⟩
theorem lz (X : Nat) (n : Net) (i : Nat) (w : World) (h : br w X n) (hi : i < n.lins.length) :
  Calls Tryz.prog 119 #[iV i, .pointer (some (aV X 0))] w fun e w' => e = .returned (sV (kq n i)) /\ Below w.heap.size w w' := by
 have n1 : w.cell? (aV X 4) = some (.slice n.linA n.lins.length n.linC) := h.box 4 _ rfl
 have hl := h.net.lens.2.2.2.2.1
 unfold maxLen at hl
 obtain ⟨-, b, off, hA, -, hc, -⟩ := ay bT h.net.lins (bC hi) (by omega)
 have x0 : w.cell? (aV b (off + i * 6)) = some (sV (kq n i)) := hc _ rfl
 rw [hA] at n1
 have j1 : (0 : Int) <= (i : Int) := by omega
 have j2 : (i : Int) < (n.lins.length : Int) := by omega
 clear h hc hA
 go_enter Tryz.func119, Tryz.ntmps119
 go_wp2_with fail
 go_ret
 exact ⟨rfl, aJ _ _⟩
theorem lH (X : Nat) (n : Net) (i : Nat) (w : World) (h : br w X n) (hi : i < n.clss.length) :
  Calls Tryz.prog 123 #[iV i, .pointer (some (aV X 0))] w fun e w' => e = .returned (sV (kr n i)) /\ Below w.heap.size w w' := by
 have n1 : w.cell? (aV X 5) = some (.slice n.clsA n.clss.length n.clsC) := h.box 5 _ rfl
 have hl := h.net.lens.2.2.2.2.2
 unfold maxLen at hl
 obtain ⟨-, b, off, hA, -, hc, -⟩ := ay dh h.net.clss (bX hi) (by omega)
 have x0 : w.cell? (aV b (off + i * 3)) = some (sV (kr n i)) := hc _ rfl
 rw [hA] at n1
 have j1 : (0 : Int) <= (i : Int) := by omega
 have j2 : (i : Int) < (n.clss.length : Int) := by omega
 clear h hc hA
 go_enter Tryz.func123, Tryz.ntmps123
 go_wp2_with fail
 go_ret
 exact ⟨rfl, aJ _ _⟩
theorem mu (s : List UInt8) (w : World) :
  Calls Tryz.prog 114 #[opV s] w fun e w' => e = .returned (.bool true) /\ Below w.heap.size w w' := by
 go_enter Tryz.func114, Tryz.ntmps114
 go_wp2_with fail
 go_ret
 exact ⟨rfl, (aJ _ _).alloc (aH _) _⟩
def kG (k : Cls) : Bool := eO k.cut && eO k.deliver
theorem lI (k : Cls) (w : World) :
  Calls Tryz.prog 125 #[clsV k] w fun e w' => e = .returned (.bool (kG k)) /\ Below w.heap.size w w' := by
 have HB := aB (ba w (.cells #[sV k.name, iV k.cut, iV k.deliver] 135))
 have hX := aC w (.cells #[sV k.name, iV k.cut, iV k.deliver] 135)
 have x1 : (w.alloc (.cells #[sV k.name, iV k.cut, iV k.deliver] 135)).cell? (aV w.heap.size 1) = some (iV k.cut) := aA 1 hX
 have x2 : (w.alloc (.cells #[sV k.name, iV k.cut, iV k.deliver] 135)).cell? (aV w.heap.size 2) = some (iV k.deliver) := aA 2 hX
 clear hX
 go_enter Tryz.func125, Tryz.ntmps125
 go_upto_region 1 with fail
 change Code.wp _ _ _ _ (w.alloc (.cells #[sV k.name, iV k.cut, iV k.deliver] 135))
 generalize (w.alloc (.cells #[sV k.name, iV k.cut, iV k.deliver] 135)) = W0 at *
 go_wp2_with fail
 refine (ix _ _).mono ?_
 rintro e w2 ⟨rfl, rfl⟩
 cases h : eO k.cut
 ·have HR : Hid (kG k = false) := by show _ = _; unfold kG; rw [h]; rfl
  clear h
  go_wp2_with fail
  go_ret
  exact ⟨ah HR.out.symm, HB.out⟩
 ·have HR : Hid (kG k = eO k.deliver) := by show _ = _; unfold kG; rw [h]; rfl
  clear h
  go_wp2_with fail
  refine (ix _ _).mono ?_
  rintro e w2 ⟨rfl, rfl⟩
  go_wp2_with fail
  go_ret
  exact ⟨ah HR.out.symm, HB.out⟩
theorem ls (X : Nat) (n : Net) (o : Off) (w : World) (h : br w X n) (ho : jL w o) :
  Calls Tryz.prog 117 #[tP o, .pointer (some (aV X 0))] w fun e w' => e = .returned (.bool (ct n o)) /\ Below w.heap.size w w' := by
 have HB := aB (ba w (dg o))
 have HO := aB (ho.below HB.out)
 have HM : Hid (n.ops.length <= maxLen /\ n.cals.length <= maxLen) := ⟨h.net.lens.2.2.1, h.net.lens.1⟩
 have hX := aC w (dg o)
 have x0 : (w.alloc (dg o)).cell? (aV w.heap.size 0) = some (sV o.name) := aA 0 hX
 have x1 : (w.alloc (dg o)).cell? (aV w.heap.size 1) = some (iV o.op) := aA 1 hX
 have x2 : (w.alloc (dg o)).cell? (aV w.heap.size 2) = some (iV o.cal) := aA 2 hX
 have x3 : (w.alloc (dg o)).cell? (aV w.heap.size 3) = some (iV o.pockets) := aA 3 hX
 have x4 : (w.alloc (dg o)).cell? (aV w.heap.size 4) = some (iV o.passes) := aA 4 hX
 have x5 : (w.alloc (dg o)).cell? (aV w.heap.size 5) = some (iV o.minutes) := aA 5 hX
 have x6 : (w.alloc (dg o)).cell? (aV w.heap.size 6) = some (.slice o.cA o.codes.length o.cc) := aA 6 hX
 have hb := h.below HB.out
 have n0 : (w.alloc (dg o)).cell? (aV X 0) = some (.slice n.calA n.cals.length n.calC) := hb.box 0 _ rfl
 have n1 : (w.alloc (dg o)).cell? (aV X 1) = some (.slice n.namA n.names.length n.namC) := hb.box 1 _ rfl
 have n2 : (w.alloc (dg o)).cell? (aV X 2) = some (.slice n.opA n.ops.length n.opC) := hb.box 2 _ rfl
 have n3 : (w.alloc (dg o)).cell? (aV X 3) = some (.slice n.offA n.offs.length n.offC) := hb.box 3 _ rfl
 have n4 : (w.alloc (dg o)).cell? (aV X 4) = some (.slice n.linA n.lins.length n.linC) := hb.box 4 _ rfl
 have n5 : (w.alloc (dg o)).cell? (aV X 5) = some (.slice n.clsA n.clss.length n.clsC) := hb.box 5 _ rfl
 clear hX h ho hb
 go_enter Tryz.func117, Tryz.ntmps117
 go_upto_region 1 with fail
 change Code.wp _ _ _ _ (w.alloc (dg o))
 generalize (w.alloc (dg o)) = W0 at *
 go_wp2_with fail
 refine (mI n o _ HO.out HM.out).mono ?_
 rintro e w2 ⟨rfl, hb⟩
 have HB2 := aB (bt HB.out hb); clear hb
 go_wp2_with fail
 go_ret
 exact ⟨rfl, HB2.out⟩
theorem lD (X : Nat) (n : Net) (l : Lin) (w : World) (h : br w X n) :
  Calls Tryz.prog 121 #[ud l, .pointer (some (aV X 0))] w fun e w' => e = .returned (.bool (eY n l)) /\ Below w.heap.size w w' := by
 have HB := aB (ba w (dk l))
 have HM : Hid (n.offs.length <= maxLen) := h.net.lens.2.2.2.1
 have hX := aC w (dk l)
 have x0 : (w.alloc (dk l)).cell? (aV w.heap.size 0) = some (sV l.name) := aA 0 hX
 have x1 : (w.alloc (dk l)).cell? (aV w.heap.size 1) = some (iV l.frm) := aA 1 hX
 have x2 : (w.alloc (dk l)).cell? (aV w.heap.size 2) = some (iV l.to) := aA 2 hX
 have x3 : (w.alloc (dk l)).cell? (aV w.heap.size 3) = some (iV l.at_) := aA 3 hX
 have x4 : (w.alloc (dk l)).cell? (aV w.heap.size 4) = some (iV l.travel) := aA 4 hX
 have x5 : (w.alloc (dk l)).cell? (aV w.heap.size 5) = some (iV l.load) := aA 5 hX
 have hb := h.below HB.out
 have n0 : (w.alloc (dk l)).cell? (aV X 0) = some (.slice n.calA n.cals.length n.calC) := hb.box 0 _ rfl
 have n1 : (w.alloc (dk l)).cell? (aV X 1) = some (.slice n.namA n.names.length n.namC) := hb.box 1 _ rfl
 have n2 : (w.alloc (dk l)).cell? (aV X 2) = some (.slice n.opA n.ops.length n.opC) := hb.box 2 _ rfl
 have n3 : (w.alloc (dk l)).cell? (aV X 3) = some (.slice n.offA n.offs.length n.offC) := hb.box 3 _ rfl
 have n4 : (w.alloc (dk l)).cell? (aV X 4) = some (.slice n.linA n.lins.length n.linC) := hb.box 4 _ rfl
 have n5 : (w.alloc (dk l)).cell? (aV X 5) = some (.slice n.clsA n.clss.length n.clsC) := hb.box 5 _ rfl
 clear hX h hb
 go_enter Tryz.func121, Tryz.ntmps121
 go_upto_region 1 with fail
 change Code.wp _ _ _ _ (w.alloc (dk l))
 generalize (w.alloc (dk l)) = W0 at *
 go_wp2_with fail
 refine (oL n l _ HM.out).mono ?_
 rintro e w2 ⟨rfl, hb⟩
 have HB2 := aB (bt HB.out hb); clear hb
 go_wp2_with fail
 go_ret
 exact ⟨rfl, HB2.out⟩
def xg (w : World) (ok : Prop) (e : Ending) (w' : World) : Prop :=
 ∃ A m c xs, e = .returned (.slice A m c) /\ w'.ownsRow w.heap.size 150 3 (.slice A m c) m xs /\ (∀ x ∈ xs, x.oneCell' = true) /\ (m = 0 ↔ ok) /\ m <= 41 /\ Below w.heap.size w w'
def cB {α : Type} (nm : Nat -> List UInt8) (gd : α -> Bool) (L : List α) (i : Nat) : Prop := bI (nm i) = true /\ bS nm i = true /\ ∀ x, L[i]? = some x -> gd x = true
theorem mK : (Tryz.prog.info? 150).map (fun i => (i.zero, i.size, i.bytes)) = some (some (.agg #[iV 0, iV 0, iV 0]), 3, 24) := by kernel_rfl
theorem kn {α : Type} {nm : Nat -> List UInt8} {gd : α -> Bool} {L : List α} {m k : Nat} (h : m = 0 ↔ ∀ j < k, cB nm gd L j) (hk : cB nm gd L k) : m = 0 ↔ ∀ j < k + 1, cB nm gd L j :=
 h.trans ⟨fun h j hj => by
  rcases Nat.lt_or_ge j k with h1 | h1
  ·exact h j h1
  ·obtain rfl : j = k := by omega
   exact hk, fun h j hj => h j (by omega)⟩
theorem en {α : Type} {nm : Nat -> List UInt8} {gd : α -> Bool} {L : List α} {m k : Nat} (hk : ¬ cB nm gd L k) : m + 1 = 0 ↔ ∀ j < k + 1, cB nm gd L j :=
 ⟨fun h => by omega, fun h => absurd (h k (by omega)) hk⟩
theorem fI {xs : List Value} {a b c : Int} (h : ∀ x ∈ xs, x.oneCell' = true) : ∀ x ∈ xs ++ [iV a, iV b, iV c], x.oneCell' = true := by
 intro x hx
 rcases List.mem_append.1 hx with hx | hx
 ·exact h x hx
 ·simp at hx
  rcases hx with rfl | rfl | rfl <;> rfl
theorem bG {ops : Array Oper} {rest : List Oper} {o : Oper} {a : Act} {Q : Exit -> Act -> World -> Prop} {W wr : World} {base m : Nat} {v : Value} {xs : List Value} {x y z : Int} (hgd : o.guard = none) (s u : Operand)
  (ho : o.op = .call { callee := .builtin .append, args := #[s, u], argTypes := #[85, 85] }) (hs : a.eval s = v) (hx : a.eval u = .slice (some (aV wr.heap.size 0)) 1 1) (hown : wr.ownsRow base 150 3 v m xs) (hm : m <= 1000) (hW : base <= W.heap.size) (HB : Below base W wr)
  (h : ∀ A c w', w'.ownsRow base 150 3 (.slice A (m + 1) c) (m + 1) (xs ++ [iV x, iV y, iV z]) -> Below base W w' -> wpList Tryz.prog ops Q rest (a.put o.dst (.slice A (m + 1) c)) w') :
  wpList Tryz.prog ops Q (o :: rest) a (wr.alloc (.cells #[iV x, iV y, iV z] 150)) := by
 obtain ⟨i0, hi0, hz0, hz1, hz2⟩ := info_parts mK
 have hl := HB.size
 exact bg hgd s u _ _ ho base 150 i0 _ 3 24 Tryz.underlying85 hi0 hz0 hz1 hz2 (by rfl) _ m xs hs (hown.alloc (.cells #[iV x, iV y, iV z] 150)) _ hx 1 [iV x, iV y, iV z] (fB 3 Tryz.underlying85 (Rd.new _ [iV x, iV y, iV z] _) rfl (by simp [Value.oneCell'])) (by unfold maxLen; omega) (by omega) (by simp; omega) fun A c w' h1 h2 _ =>
  h A c w' h1 (bp (HB.alloc (aG hW hl) _) hW (hown.alloc _) (aH _) h2)
abbrev ck1 (f X : Nat) : Value := .func (.func f) #[] #[.pointer (some (aV X 0))]
abbrev ck2 (f X Y : Nat) : Value := .func (.func f) #[] #[.pointer (some (aV X 0)), .pointer (some (aV Y 0))]
structure CkW (w : World) (o0 o1 o2 o3 : Obj) (X X1 X2 X3 : Nat) (W : World) : Prop where
 bel : Below w.heap.size w W
 eq : w.heap.size = X
 lt : X1 = X + 1 /\ X2 = X + 1 + 1 /\ X3 = X + 1 + 1 + 1
 q0 : W.heap[X]? = some o0
 q1 : W.heap[X1]? = some o1
 q2 : W.heap[X2]? = some o2
 q3 : W.heap[X3]? = some o3
theorem je (w : World) (o0 o1 o2 o3 : Obj) : CkW w o0 o1 o2 o3 w.heap.size (w.heap.size + 1) (w.heap.size + 1 + 1) (w.heap.size + 1 + 1 + 1) ((((w.alloc o0).alloc o1).alloc o2).alloc o3) := by
 have e0 := aC w o0
 have e1 := aC (w.alloc o0) o1
 have e2 := aC ((w.alloc o0).alloc o1) o2
 have e3 := aC (((w.alloc o0).alloc o1).alloc o2) o3
 have b1 := ba (w.alloc o0) o1
 have b2 := ba ((w.alloc o0).alloc o1) o2
 have b3 := ba (((w.alloc o0).alloc o1).alloc o2) o3
 have k0 := ((bt (bt b1 b2) b3).block _ (aa e0)).trans e0
 have k1 := ((bt b2 b3).block _ (aa e1)).trans e1
 have k2 := (b3.block _ (aa e2)).trans e2
 rw [aT] at k1
 rw [aT, aT] at k2
 rw [aT, aT, aT] at e3
 exact ⟨bt (ba w o0) (bt (bt b1 b2) b3), rfl, ⟨rfl, rfl, rfl⟩, k0, k1, k2, e3⟩
theorem CkW.len {w W : World} {o0 o1 o2 o3 : Obj} {X X1 X2 X3 : Nat} (h : CkW w o0 o1 o2 o3 X X1 X2 X3 W) : X3 + 1 <= W.heap.size := aa h.q3
theorem CkW.keep {w W wr : World} {o0 o1 o2 o3 : Obj} {X X1 X2 X3 : Nat} (h : CkW w o0 o1 o2 o3 X X1 X2 X3 W) (hb : Below (X3 + 1) W wr) : CkW w o0 o1 o2 o3 X X1 X2 X3 wr :=
 have hl := h.lt
 ⟨h.bel.trans (hb.mono (by have := h.eq; omega)), h.eq, hl, (hb.block _ (by omega)).trans h.q0, (hb.block _ (by omega)).trans h.q1, (hb.block _ (by omega)).trans h.q2, (hb.block _ (by omega)).trans h.q3⟩
theorem nY (kind : Int) (lim : Nat) (f g : FuncId) (fb gb : Array Value) (nm : Nat -> List UInt8) (gd : Cal -> Bool) (L : List (Cal)) (A : Option Addr) (c : Nat) (w : World)
  (hf : fd f fb nm L.length w) (hg : ii g gb (fun x : Cal => eI x) L gd w) (hk : KW w) (hl : L.length <= maxLen) (hlim : lim <= 40) (hnm : ∀ i < L.length, (nm i).length <= maxLen) (hR : Rd w A (L.flatMap dZ))
  (ef : ∀ args w, (callFunc f args).run Tryz.prog w = .ok (.enter f args) w) (eg : ∀ args w, (callFunc g args).run Tryz.prog w = .ok (.enter g args) w) :
  Calls Tryz.prog 110 #[iV kind, iV lim, .slice A L.length c, .func (.func f) #[] fb, .func (.func g) #[] gb] w (xg w (L.length <= lim /\ ∀ i < L.length, cB nm gd L i)) := by
 have HF := aB hf
 have HG := aB hg
 have HK := aB hk
 have HN := aB hnm
 have HR := aB hR
 have HL := aB hl
 have EF := aB ef
 have EG := aB eg
 clear hf hg hk hnm hR ef eg
 unfold maxLen at hl
 have h0 := je w (.cells #[.slice A L.length c] 22) (.cells #[.func (.func f) #[] fb] 104) (.cells #[.func (.func g) #[] gb] 167) (.cells #[ck1 152 (w.heap.size + 1), ck1 154 (w.heap.size + 1), ck2 155 (w.heap.size + 1 + 1) w.heap.size] 203)
 go_enter Tryz.func110, Tryz.ntmps110
 go_upto_region 2 with fail
 change Code.wp _ _ _ _ ((((w.alloc (.cells #[.slice A L.length c] 22)).alloc (.cells #[.func (.func f) #[] fb] 104)).alloc (.cells #[.func (.func g) #[] gb] 167)).alloc (.cells #[ck1 152 (w.heap.size + 1), ck1 154 (w.heap.size + 1), ck2 155 (w.heap.size + 1 + 1) w.heap.size] 203))
 generalize ((((w.alloc (.cells #[.slice A L.length c] 22)).alloc (.cells #[.func (.func f) #[] fb] 104)).alloc (.cells #[.func (.func g) #[] gb] 167)).alloc (.cells #[ck1 152 (w.heap.size + 1), ck1 154 (w.heap.size + 1), ck2 155 (w.heap.size + 1 + 1) w.heap.size] 203)) = W at *
 generalize w.heap.size = X at h0 ⊢
 have HS := aB h0
 clear h0
 generalize hX1 : X + 1 = X1 at *
 generalize hX2 : X1 + 1 = X2 at *
 generalize hX3 : X2 + 1 = X3 at *
 clear hX1 hX2 hX3
 have c0 := aA 0 HS.out.q0
 go_upto_region 3 with fail
 go_cut [24, 25] from 21 to 25 (fun v i wx => ∃ M : Nat, M <= lim /\ M <= L.length /\ (M = lim ∨ M = L.length) /\ v = iV M /\ i = iV 0 /\ wx = W)
 case first =>
  by_cases hml : (lim : Int) < (L.length : Int)
  ·go_wp2_with fail
   go_meet
   exact ⟨lim, by omega, by omega, .inl rfl, rfl, rfl, rfl⟩
  ·go_wp2_with fail
   go_meet
   exact ⟨L.length, by omega, by omega, .inr rfl, rfl, rfl, rfl⟩
 case rest =>
 obtain ⟨M, hM1, hM2, hM3, rfl, rfl, hw⟩ := hcut
 rw [hw]
 clear hw
 clear c0
 have ix0 : ∀ w : World, (Instr.index 203 (.agg #[ck1 152 X1, ck1 154 X1, ck2 155 X2 X]) (iV 0)).run Tryz.prog w = .ok (ck1 152 X1) w := fun _ => by kernel_rfl
 have ix1 : ∀ w : World, (Instr.index 203 (.agg #[ck1 152 X1, ck1 154 X1, ck2 155 X2 X]) (iV 1)).run Tryz.prog w = .ok (ck1 154 X1) w := fun _ => by kernel_rfl
 have ix2 : ∀ w : World, (Instr.index 203 (.agg #[ck1 152 X1, ck1 154 X1, ck2 155 X2 X]) (iV 2)).run Tryz.prog w = .ok (ck2 155 X2 X) w := fun _ => by kernel_rfl
 go_wp2_with fail
 go_loopw [25, 12] (fun i v wr => ∃ (k m : Nat) (xs : List Value), k <= M /\ m <= k /\ i = iV k /\ Hid (wr.ownsRow (X3 + 1) 150 3 v m xs) /\ Hid (∀ x ∈ xs, x.oneCell' = true) /\ Hid (Below (X3 + 1) W wr) /\ Hid (m = 0 ↔ ∀ j < k, cB nm gd L j)) (fun i _ _ => lim + 1 - (intOf i).toNat)
 case atStart => exact ⟨0, 0, [], by omega, by omega, rfl, World.ownsRow_nil _ _ _ _, (fun x hx => by cases hx), aJ _ _, ⟨fun _ j hj => by omega, fun _ => rfl⟩⟩
 case round =>
 obtain ⟨k, m, xs, hk, hmk, rfl, HO, H1, HB, HQ⟩ := hrel
 obtain ⟨A2, c2, rfl⟩ := b9 HO.out
 have HS1 := aB (HS.out.keep HB.out)
 have m0 : (0 : Int) <= (k : Int) := by omega
 by_cases hlt : k < M
 case neg =>
  have m1 : ¬ (k : Int) < (M : Int) := by omega
  have r0 := aA 0 HS1.out.q0
  have HFIN : Hid (Below w.heap.size w W) := HS.out.bel
  by_cases hml : (lim : Int) < (L.length : Int)
  ·go_wp2_with (refine bG (by rfl) (.tmp 50) (.tmp 54) (by rfl) (by rfl) (by rfl) HO.out (by omega) HS.out.len HB.out ?_; intro A4 c4 w4 ho hb; have HO4 := aB ho; have HB4 := aB hb; clear ho hb)
   go_ret
   exact ⟨A4, m + 1, c4, xs ++ [iV kind, iV lim, iV 2], rfl, cn HO4.out (by have := HS.out.eq; have := HS.out.lt; omega), fI H1.out, ⟨fun h => by omega, fun h => by omega⟩, by omega, (HS.out.keep HB4.out).bel⟩
  ·go_wp2
   go_ret
   exact ⟨A2, m, c2, xs, rfl, cn HO.out (by have := HS.out.eq; have := HS.out.lt; omega), H1.out, HQ.out.trans ⟨fun h => ⟨by omega, fun i hi => h i (by omega)⟩, fun h j hj => h.2 j (by omega)⟩, by omega, HS1.out.bel⟩
 have m1 : (k : Int) < (M : Int) := by omega
 have hlt2 : k < L.length := by omega
 have r1 := aA 0 HS1.out.q1
 have hx : L[k]? = some L[k] := aD _
 generalize L[k] = x at hx
 have HXX := aB hx; clear hx
 go_wp2_with (refine wpList_load_row (by rfl) 203 (.tmp 11) (by rfl) X3 (by rfl) 203 #[ck1 152 X1, ck1 154 X1, ck2 155 X2 X] (0, 0) _ HS1.out.q3 Tryz.underlying203 (by rfl) (by kernel_rfl) ?_)
 refine wp_loop_rounds 4 ?_
 rw [rounds_succ]
 go_wp2_with fail
 refine (tw f fb nm L.length k X1 _ (HF.out.below HS1.out.bel) (HK.out.below HS1.out.bel) hlt2 (HN.out k hlt2) r1 EF.out).mono ?_
 rintro e w1 ⟨rfl, hb⟩
 have HB1 : Hid (Below (X3 + 1) W w1) := HB.out.trans (hb.mono (aG HS.out.len HB.out.size))
 have HO1 := aB (aq HO.out hb)
 have HS2 := aB (HS.out.keep HB1.out)
 clear r1 hb HO HB HS1
 cases hn1 : bI (nm k)
 case false =>
  have HBAD : Hid (m + 1 = 0 ↔ ∀ j < k + 1, cB nm gd L j) := en (fun h => by rw [h.1] at hn1; cases hn1)
  clear hn1
  go_wp2_with (refine bG (by rfl) (.tmp 37) (.tmp 42) (by rfl) (by rfl) (by rfl) HO1.out (by omega) HS.out.len HB1.out ?_; intro A4 c4 w4 ho hb; have HO4 := aB ho; have HB4 := aB hb; clear ho hb)
  go_roundw
  case rel => exact ⟨k + 1, m + 1, _, by omega, by omega, by go_num, HO4.out, fI H1.out, HB4.out, HBAD.out⟩
  case measure => simp [intOf]; omega
 have HN1 := aB hn1; clear hn1
 go_wp2
 rw [rounds_succ]
 have r1 := aA 0 HS2.out.q1
 go_wp2_with fail
 refine (tn f fb nm L.length k X1 _ (HF.out.below HS2.out.bel) hlt2 HL.out r1 EF.out).mono ?_
 rintro e w2 ⟨⟨y, rfl, hy⟩, hb⟩
 have HY := aB hy; clear hy
 have HB2 : Hid (Below (X3 + 1) W w2) := HB1.out.trans (hb.mono (aG HS.out.len HB1.out.size))
 have HO2 := aB (aq HO1.out hb)
 have HS3 := aB (HS.out.keep HB2.out)
 clear r1 hb HO1 HB1 HS2
 by_cases hy0 : y = 0
 case neg =>
  have HBAD : Hid (m + 1 = 0 ↔ ∀ j < k + 1, cB nm gd L j) := en (fun h => hy0 (HY.out.2 h.2.1))
  have y1 : (y != 0) = true := by simpa using hy0
  have y2 : (y == 0) = false := by simpa using hy0
  clear hy0
  go_wp2_with (refine bG (by rfl) (.tmp 37) (.tmp 42) (by rfl) (by rfl) (by rfl) HO2.out (by omega) HS.out.len HB2.out ?_; intro A4 c4 w4 ho hb; have HO4 := aB ho; have HB4 := aB hb; clear ho hb)
  go_roundw
  case rel => exact ⟨k + 1, m + 1, _, by omega, by omega, by go_num, HO4.out, fI H1.out, HB4.out, HBAD.out⟩
  case measure => simp [intOf]; omega
 have HN2 : Hid (bS nm k = true) := HY.out.1 hy0
 subst hy0
 clear HY
 go_wp2
 rw [rounds_succ]
 have r0 := aA 0 HS3.out.q0
 have r2 := aA 0 HS3.out.q2
 go_wp2_with fail
 refine (ti g gb gd L A c k X2 X x _ (HG.out.below HS3.out.bel) HL.out (HR.out.below HS3.out.bel) HXX.out r2 r0 EG.out).mono ?_
 rintro e w3 ⟨rfl, hb⟩
 have HB3 : Hid (Below (X3 + 1) W w3) := HB2.out.trans (hb.mono (aG HS.out.len HB2.out.size))
 have HO3 := aB (aq HO2.out hb)
 clear r0 r2 hb HO2 HB2 HS3
 cases hn3 : gd x
 case false =>
  have HBAD : Hid (m + 1 = 0 ↔ ∀ j < k + 1, cB nm gd L j) := en (fun h => by rw [h.2.2 x HXX.out] at hn3; cases hn3)
  clear hn3
  go_wp2_with (refine bG (by rfl) (.tmp 37) (.tmp 42) (by rfl) (by rfl) (by rfl) HO3.out (by omega) HS.out.len HB3.out ?_; intro A4 c4 w4 ho hb; have HO4 := aB ho; have HB4 := aB hb; clear ho hb)
  go_roundw
  case rel => exact ⟨k + 1, m + 1, _, by omega, by omega, by go_num, HO4.out, fI H1.out, HB4.out, HBAD.out⟩
  case measure => simp [intOf]; omega
 have HGOOD : Hid (m = 0 ↔ ∀ j < k + 1, cB nm gd L j) := kn HQ.out ⟨HN1.out, HN2.out, fun z hz => by rw [HXX.out] at hz; cases hz; exact hn3⟩
 clear hn3 HQ
 go_wp2
 rw [rounds_succ]
 go_wp2
 go_roundw
 case rel => exact ⟨k + 1, m, xs, by omega, by omega, by go_num, HO3.out, H1.out, HB3.out, HGOOD.out⟩
 case measure => simp [intOf]; omega
end Go.Proofs.YtpeaiphdkgifaaaGreatDoor
