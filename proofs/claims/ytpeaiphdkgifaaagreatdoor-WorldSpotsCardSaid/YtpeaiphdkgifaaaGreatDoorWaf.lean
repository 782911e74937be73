/-
  The walks over check's third rule. The walks over the survey's names and judgements of things. What survey.check leaves.
-/
import Derived.Test.YtpeaiphdkgifaaaGreatDoorProRules2
import Derived.Laws.EntriesVeiled
import Derived.Laws.Rows
namespace Go.Proofs.YtpeaiphdkgifaaaGreatDoor
open Go.RowKit
set_option maxHeartbeats 20000000
set_option maxRecDepth 100000
def encOp (s : List UInt8) : List Value := [sV s]
abbrev opV (s : List UInt8) : Value := .agg #[sV s]
theorem encOp_len (s : List UInt8) : (encOp s).length = 1 := rfl
theorem encOp_map (l : List (List UInt8)) : l.flatMap encOp = l.map sV := by
 induction l with
 | nil => rfl
 | cons a l ih => rw [List.flatMap_cons, ih]; rfl
def GoodF {α : Type} (g : FuncId) (gb : Array Value) (V : α -> Value) (L : List α) (gd : α -> Bool) (w : World) : Prop :=
 ∀ x ∈ L, ∀ w', Below w.heap.size w w' -> Calls Tryz.prog g (#[V x] ++ gb) w' fun e w2 => e = .returned (.bool (gd x)) /\ Below w'.heap.size w' w2
theorem GoodF.below {α : Type} {g : FuncId} {gb : Array Value} {V : α -> Value} {L : List α} {gd : α -> Bool} {w w1 : World} (h : GoodF g gb V L gd w) (hb : Below w.heap.size w w1) : GoodF g gb V L gd w1 :=
 fun x hx w' hb' => h x hx w' (bt hb hb')
theorem rule3_cal (g : FuncId) (gb : Array Value) (gd : Cal -> Bool) (L : List (Cal)) (A : Option Addr) (c i P Q : Nat) (x : Cal) (w : World) (hg : GoodF g gb (fun x : Cal => calV x) L gd w) (_hl : L.length <= maxLen) (hR : Rd w A (L.flatMap encCal)) (hx : L[i]? = some x)
  (hp : w.cell? ⟨P, 0, none⟩ = some (.func (.func g) #[] gb)) (hq : w.cell? ⟨Q, 0, none⟩ = some (.slice A L.length c)) (eg : ∀ args w, (callFunc g args).run Tryz.prog w = .ok (.enter g args) w) :
  Calls Tryz.prog 155 #[iV i, .pointer (some ⟨P, 0, none⟩), .pointer (some ⟨Q, 0, none⟩)] w fun e w' => e = .returned (iV (ruleV (gd x))) /\ Below w.heap.size w w' := by
 unfold maxLen at _hl
 have HG := Lib.hid (hg x (List.mem_of_getElem? hx)); clear hg
 obtain ⟨hlt, b, off, hA, hbl, hc0, hc⟩ := elem_at encCal_len hR hx (by omega)
 have x0 := hc0 _ rfl
 have x1 := hc 1 _ rfl
 have x2 := hc 2 _ rfl
 rw [hA] at hq
 have HP := Lib.hid hp
 have hPl := World.block_lt_of_cell? w _ hp
 have hQl := World.block_lt_of_cell? w _ hq
 have HS : Hid (∀ w', Below w.heap.size w w' -> w'.cell? ⟨P, 0, none⟩ = some (.func (.func g) #[] gb) /\ w'.cell? ⟨Q, 0, none⟩ = some (.slice (some ⟨b, off, none⟩) L.length c) /\ w'.cell? ⟨b, off + i * 3, none⟩ = some (iV x.zone) /\ w'.cell? ⟨b, off + i * 3 + 1, none⟩ = some (.slice x.wA x.week.length x.wc) /\ w'.cell? ⟨b, off + i * 3 + 2, none⟩ = some (.slice x.hA x.hol.length x.hc)) := fun w' hb => ⟨(hb.cell (p := ⟨P, 0, none⟩) hPl).trans hp, (hb.cell (p := ⟨Q, 0, none⟩) hQl).trans hq, (hb.cell (p := ⟨b, _, none⟩) hbl).trans x0, (hb.cell (p := ⟨b, _, none⟩) hbl).trans x1, (hb.cell (p := ⟨b, _, none⟩) hbl).trans x2⟩
 have j1 : (0 : Int) <= (i : Int) := by omega
 have j2 : (i : Int) < (L.length : Int) := by omega
 clear hc0 hc hR hA hx hbl
 cases hd : gd x
 all_goals
  have HD := Lib.hid hd; clear hd
  go_enter Tryz.func155, Tryz.ntmps155
  go_wp2_with fail
  go_region_held3 (fun w' => w'.cell? ⟨P, 0, none⟩ = some (.func (.func g) #[] gb) /\ w'.cell? ⟨Q, 0, none⟩ = some (.slice (some ⟨b, off, none⟩) L.length c) /\ w'.cell? ⟨b, off + i * 3, none⟩ = some (iV x.zone) /\ w'.cell? ⟨b, off + i * 3 + 1, none⟩ = some (.slice x.wA x.week.length x.wc) /\ w'.cell? ⟨b, off + i * 3 + 2, none⟩ = some (.slice x.hA x.hol.length x.hc)) (first | (with_reducible exact HS.out _ (b_drew (Below.refl _ _))) | (with_reducible exact HS.out _ HB.out)) ((refine (HG.out _ (b_drew (Below.refl _ _))).mono ?_; rintro e w2 ⟨rfl, hb⟩; have HB := Lib.hid (bdr hb); clear hb; rw [HD.out]))
  go_wp2_with fail
  go_ret
  exact ⟨rfl, HB.out⟩
theorem rule3_op (g : FuncId) (gb : Array Value) (gd : List UInt8 -> Bool) (L : List (List UInt8)) (A : Option Addr) (c i P Q : Nat) (x : List UInt8) (w : World) (hg : GoodF g gb (fun x : List UInt8 => opV x) L gd w) (_hl : L.length <= maxLen) (hR : Rd w A (L.flatMap encOp)) (hx : L[i]? = some x)
  (hp : w.cell? ⟨P, 0, none⟩ = some (.func (.func g) #[] gb)) (hq : w.cell? ⟨Q, 0, none⟩ = some (.slice A L.length c)) (eg : ∀ args w, (callFunc g args).run Tryz.prog w = .ok (.enter g args) w) :
  Calls Tryz.prog 158 #[iV i, .pointer (some ⟨P, 0, none⟩), .pointer (some ⟨Q, 0, none⟩)] w fun e w' => e = .returned (iV (ruleV (gd x))) /\ Below w.heap.size w w' := by
 unfold maxLen at _hl
 have HG := Lib.hid (hg x (List.mem_of_getElem? hx)); clear hg
 obtain ⟨hlt, b, off, hA, hbl, hc0, hc⟩ := elem_at encOp_len hR hx (by omega)
 have x0 := hc0 _ rfl
 rw [Nat.mul_one] at x0
 rw [hA] at hq
 have HP := Lib.hid hp
 have hPl := World.block_lt_of_cell? w _ hp
 have hQl := World.block_lt_of_cell? w _ hq
 have HS : Hid (∀ w', Below w.heap.size w w' -> w'.cell? ⟨P, 0, none⟩ = some (.func (.func g) #[] gb) /\ w'.cell? ⟨Q, 0, none⟩ = some (.slice (some ⟨b, off, none⟩) L.length c) /\ w'.cell? ⟨b, off + i, none⟩ = some (sV x)) := fun w' hb => ⟨(hb.cell (p := ⟨P, 0, none⟩) hPl).trans hp, (hb.cell (p := ⟨Q, 0, none⟩) hQl).trans hq, (hb.cell (p := ⟨b, _, none⟩) hbl).trans x0⟩
 have j1 : (0 : Int) <= (i : Int) := by omega
 have j2 : (i : Int) < (L.length : Int) := by omega
 clear hc0 hc hR hA hx hbl
 cases hd : gd x
 all_goals
  have HD := Lib.hid hd; clear hd
  go_enter Tryz.func158, Tryz.ntmps158
  go_wp2_with fail
  go_region_held3 (fun w' => w'.cell? ⟨P, 0, none⟩ = some (.func (.func g) #[] gb) /\ w'.cell? ⟨Q, 0, none⟩ = some (.slice (some ⟨b, off, none⟩) L.length c) /\ w'.cell? ⟨b, off + i, none⟩ = some (sV x)) (first | (with_reducible exact HS.out _ (b_drew (Below.refl _ _))) | (with_reducible exact HS.out _ HB.out)) ((refine (HG.out _ (b_drew (Below.refl _ _))).mono ?_; rintro e w2 ⟨rfl, hb⟩; have HB := Lib.hid (bdr hb); clear hb; rw [HD.out]))
  go_wp2_with fail
  go_ret
  exact ⟨rfl, HB.out⟩
theorem rule3_off (g : FuncId) (gb : Array Value) (gd : Off -> Bool) (L : List (Off)) (A : Option Addr) (c i P Q : Nat) (x : Off) (w : World) (hg : GoodF g gb (fun x : Off => offV x) L gd w) (_hl : L.length <= maxLen) (hR : Rd w A (L.flatMap encOff)) (hx : L[i]? = some x)
  (hp : w.cell? ⟨P, 0, none⟩ = some (.func (.func g) #[] gb)) (hq : w.cell? ⟨Q, 0, none⟩ = some (.slice A L.length c)) (eg : ∀ args w, (callFunc g args).run Tryz.prog w = .ok (.enter g args) w) :
  Calls Tryz.prog 161 #[iV i, .pointer (some ⟨P, 0, none⟩), .pointer (some ⟨Q, 0, none⟩)] w fun e w' => e = .returned (iV (ruleV (gd x))) /\ Below w.heap.size w w' := by
 unfold maxLen at _hl
 have HG := Lib.hid (hg x (List.mem_of_getElem? hx)); clear hg
 obtain ⟨hlt, b, off, hA, hbl, hc0, hc⟩ := elem_at encOff_len hR hx (by omega)
 have x0 := hc0 _ rfl
 have x1 := hc 1 _ rfl
 have x2 := hc 2 _ rfl
 have x3 := hc 3 _ rfl
 have x4 := hc 4 _ rfl
 have x5 := hc 5 _ rfl
 have x6 := hc 6 _ rfl
 rw [hA] at hq
 have HP := Lib.hid hp
 have hPl := World.block_lt_of_cell? w _ hp
 have hQl := World.block_lt_of_cell? w _ hq
 have HS : Hid (∀ w', Below w.heap.size w w' -> w'.cell? ⟨P, 0, none⟩ = some (.func (.func g) #[] gb) /\ w'.cell? ⟨Q, 0, none⟩ = some (.slice (some ⟨b, off, none⟩) L.length c) /\ w'.cell? ⟨b, off + i * 7, none⟩ = some (sV x.name) /\ w'.cell? ⟨b, off + i * 7 + 1, none⟩ = some (iV x.op) /\ w'.cell? ⟨b, off + i * 7 + 2, none⟩ = some (iV x.cal) /\ w'.cell? ⟨b, off + i * 7 + 3, none⟩ = some (iV x.pockets) /\ w'.cell? ⟨b, off + i * 7 + 4, none⟩ = some (iV x.passes) /\ w'.cell? ⟨b, off + i * 7 + 5, none⟩ = some (iV x.minutes) /\ w'.cell? ⟨b, off + i * 7 + 6, none⟩ = some (.slice x.cA x.codes.length x.cc)) := fun w' hb => ⟨(hb.cell (p := ⟨P, 0, none⟩) hPl).trans hp, (hb.cell (p := ⟨Q, 0, none⟩) hQl).trans hq, (hb.cell (p := ⟨b, _, none⟩) hbl).trans x0, (hb.cell (p := ⟨b, _, none⟩) hbl).trans x1, (hb.cell (p := ⟨b, _, none⟩) hbl).trans x2, (hb.cell (p := ⟨b, _, none⟩) hbl).trans x3, (hb.cell (p := ⟨b, _, none⟩) hbl).trans x4, (hb.cell (p := ⟨b, _, none⟩) hbl).trans x5, (hb.cell (p := ⟨b, _, none⟩) hbl).trans x6⟩
 have j1 : (0 : Int) <= (i : Int) := by omega
 have j2 : (i : Int) < (L.length : Int) := by omega
 clear hc0 hc hR hA hx hbl
 cases hd : gd x
 all_goals
  have HD := Lib.hid hd; clear hd
  go_enter Tryz.func161, Tryz.ntmps161
  go_wp2_with fail
  go_region_held3 (fun w' => w'.cell? ⟨P, 0, none⟩ = some (.func (.func g) #[] gb) /\ w'.cell? ⟨Q, 0, none⟩ = some (.slice (some ⟨b, off, none⟩) L.length c) /\ w'.cell? ⟨b, off + i * 7, none⟩ = some (sV x.name) /\ w'.cell? ⟨b, off + i * 7 + 1, none⟩ = some (iV x.op) /\ w'.cell? ⟨b, off + i * 7 + 2, none⟩ = some (iV x.cal) /\ w'.cell? ⟨b, off + i * 7 + 3, none⟩ = some (iV x.pockets) /\ w'.cell? ⟨b, off + i * 7 + 4, none⟩ = some (iV x.passes) /\ w'.cell? ⟨b, off + i * 7 + 5, none⟩ = some (iV x.minutes) /\ w'.cell? ⟨b, off + i * 7 + 6, none⟩ = some (.slice x.cA x.codes.length x.cc)) (first | (with_reducible exact HS.out _ (b_drew (Below.refl _ _))) | (with_reducible exact HS.out _ HB.out)) ((refine (HG.out _ (b_drew (Below.refl _ _))).mono ?_; rintro e w2 ⟨rfl, hb⟩; have HB := Lib.hid (bdr hb); clear hb; rw [HD.out]))
  go_wp2_with fail
  go_ret
  exact ⟨rfl, HB.out⟩
theorem rule3_lin (g : FuncId) (gb : Array Value) (gd : Lin -> Bool) (L : List (Lin)) (A : Option Addr) (c i P Q : Nat) (x : Lin) (w : World) (hg : GoodF g gb (fun x : Lin => linV x) L gd w) (_hl : L.length <= maxLen) (hR : Rd w A (L.flatMap encLin)) (hx : L[i]? = some x)
  (hp : w.cell? ⟨P, 0, none⟩ = some (.func (.func g) #[] gb)) (hq : w.cell? ⟨Q, 0, none⟩ = some (.slice A L.length c)) (eg : ∀ args w, (callFunc g args).run Tryz.prog w = .ok (.enter g args) w) :
  Calls Tryz.prog 168 #[iV i, .pointer (some ⟨P, 0, none⟩), .pointer (some ⟨Q, 0, none⟩)] w fun e w' => e = .returned (iV (ruleV (gd x))) /\ Below w.heap.size w w' := by
 unfold maxLen at _hl
 have HG := Lib.hid (hg x (List.mem_of_getElem? hx)); clear hg
 obtain ⟨hlt, b, off, hA, hbl, hc0, hc⟩ := elem_at encLin_len hR hx (by omega)
 have x0 := hc0 _ rfl
 have x1 := hc 1 _ rfl
 have x2 := hc 2 _ rfl
 have x3 := hc 3 _ rfl
 have x4 := hc 4 _ rfl
 have x5 := hc 5 _ rfl
 rw [hA] at hq
 have HP := Lib.hid hp
 have hPl := World.block_lt_of_cell? w _ hp
 have hQl := World.block_lt_of_cell? w _ hq
 have HS : Hid (∀ w', Below w.heap.size w w' -> w'.cell? ⟨P, 0, none⟩ = some (.func (.func g) #[] gb) /\ w'.cell? ⟨Q, 0, none⟩ = some (.slice (some ⟨b, off, none⟩) L.length c) /\ w'.cell? ⟨b, off + i * 6, none⟩ = some (sV x.name) /\ w'.cell? ⟨b, off + i * 6 + 1, none⟩ = some (iV x.frm) /\ w'.cell? ⟨b, off + i * 6 + 2, none⟩ = some (iV x.to) /\ w'.cell? ⟨b, off + i * 6 + 3, none⟩ = some (iV x.at_) /\ w'.cell? ⟨b, off + i * 6 + 4, none⟩ = some (iV x.travel) /\ w'.cell? ⟨b, off + i * 6 + 5, none⟩ = some (iV x.load)) := fun w' hb => ⟨(hb.cell (p := ⟨P, 0, none⟩) hPl).trans hp, (hb.cell (p := ⟨Q, 0, none⟩) hQl).trans hq, (hb.cell (p := ⟨b, _, none⟩) hbl).trans x0, (hb.cell (p := ⟨b, _, none⟩) hbl).trans x1, (hb.cell (p := ⟨b, _, none⟩) hbl).trans x2, (hb.cell (p := ⟨b, _, none⟩) hbl).trans x3, (hb.cell (p := ⟨b, _, none⟩) hbl).trans x4, (hb.cell (p := ⟨b, _, none⟩) hbl).trans x5⟩
 have j1 : (0 : Int) <= (i : Int) := by omega
 have j2 : (i : Int) < (L.length : Int) := by omega
 clear hc0 hc hR hA hx hbl
 cases hd : gd x
 all_goals
  have HD := Lib.hid hd; clear hd
  go_enter Tryz.func168, Tryz.ntmps168
  go_wp2_with fail
  go_region_held3 (fun w' => w'.cell? ⟨P, 0, none⟩ = some (.func (.func g) #[] gb) /\ w'.cell? ⟨Q, 0, none⟩ = some (.slice (some ⟨b, off, none⟩) L.length c) /\ w'.cell? ⟨b, off + i * 6, none⟩ = some (sV x.name) /\ w'.cell? ⟨b, off + i * 6 + 1, none⟩ = some (iV x.frm) /\ w'.cell? ⟨b, off + i * 6 + 2, none⟩ = some (iV x.to) /\ w'.cell? ⟨b, off + i * 6 + 3, none⟩ = some (iV x.at_) /\ w'.cell? ⟨b, off + i * 6 + 4, none⟩ = some (iV x.travel) /\ w'.cell? ⟨b, off + i * 6 + 5, none⟩ = some (iV x.load)) (first | (with_reducible exact HS.out _ (b_drew (Below.refl _ _))) | (with_reducible exact HS.out _ HB.out)) ((refine (HG.out _ (b_drew (Below.refl _ _))).mono ?_; rintro e w2 ⟨rfl, hb⟩; have HB := Lib.hid (bdr hb); clear hb; rw [HD.out]))
  go_wp2_with fail
  go_ret
  exact ⟨rfl, HB.out⟩
theorem rule3_cls (g : FuncId) (gb : Array Value) (gd : Cls -> Bool) (L : List (Cls)) (A : Option Addr) (c i P Q : Nat) (x : Cls) (w : World) (hg : GoodF g gb (fun x : Cls => clsV x) L gd w) (_hl : L.length <= maxLen) (hR : Rd w A (L.flatMap encCls)) (hx : L[i]? = some x)
  (hp : w.cell? ⟨P, 0, none⟩ = some (.func (.func g) #[] gb)) (hq : w.cell? ⟨Q, 0, none⟩ = some (.slice A L.length c)) (eg : ∀ args w, (callFunc g args).run Tryz.prog w = .ok (.enter g args) w) :
  Calls Tryz.prog 172 #[iV i, .pointer (some ⟨P, 0, none⟩), .pointer (some ⟨Q, 0, none⟩)] w fun e w' => e = .returned (iV (ruleV (gd x))) /\ Below w.heap.size w w' := by
 unfold maxLen at _hl
 have HG := Lib.hid (hg x (List.mem_of_getElem? hx)); clear hg
 obtain ⟨hlt, b, off, hA, hbl, hc0, hc⟩ := elem_at encCls_len hR hx (by omega)
 have x0 := hc0 _ rfl
 have x1 := hc 1 _ rfl
 have x2 := hc 2 _ rfl
 rw [hA] at hq
 have HP := Lib.hid hp
 have hPl := World.block_lt_of_cell? w _ hp
 have hQl := World.block_lt_of_cell? w _ hq
 have HS : Hid (∀ w', Below w.heap.size w w' -> w'.cell? ⟨P, 0, none⟩ = some (.func (.func g) #[] gb) /\ w'.cell? ⟨Q, 0, none⟩ = some (.slice (some ⟨b, off, none⟩) L.length c) /\ w'.cell? ⟨b, off + i * 3, none⟩ = some (sV x.name) /\ w'.cell? ⟨b, off + i * 3 + 1, none⟩ = some (iV x.cut) /\ w'.cell? ⟨b, off + i * 3 + 2, none⟩ = some (iV x.deliver)) := fun w' hb => ⟨(hb.cell (p := ⟨P, 0, none⟩) hPl).trans hp, (hb.cell (p := ⟨Q, 0, none⟩) hQl).trans hq, (hb.cell (p := ⟨b, _, none⟩) hbl).trans x0, (hb.cell (p := ⟨b, _, none⟩) hbl).trans x1, (hb.cell (p := ⟨b, _, none⟩) hbl).trans x2⟩
 have j1 : (0 : Int) <= (i : Int) := by omega
 have j2 : (i : Int) < (L.length : Int) := by omega
 clear hc0 hc hR hA hx hbl
 cases hd : gd x
 all_goals
  have HD := Lib.hid hd; clear hd
  go_enter Tryz.func172, Tryz.ntmps172
  go_wp2_with fail
  go_region_held3 (fun w' => w'.cell? ⟨P, 0, none⟩ = some (.func (.func g) #[] gb) /\ w'.cell? ⟨Q, 0, none⟩ = some (.slice (some ⟨b, off, none⟩) L.length c) /\ w'.cell? ⟨b, off + i * 3, none⟩ = some (sV x.name) /\ w'.cell? ⟨b, off + i * 3 + 1, none⟩ = some (iV x.cut) /\ w'.cell? ⟨b, off + i * 3 + 2, none⟩ = some (iV x.deliver)) (first | (with_reducible exact HS.out _ (b_drew (Below.refl _ _))) | (with_reducible exact HS.out _ HB.out)) ((refine (HG.out _ (b_drew (Below.refl _ _))).mono ?_; rintro e w2 ⟨rfl, hb⟩; have HB := Lib.hid (bdr hb); clear hb; rw [HD.out]))
  go_wp2_with fail
  go_ret
  exact ⟨rfl, HB.out⟩
def nmCal (n : Net) (i : Nat) : List UInt8 := n.names.getD i []
def nmOp (n : Net) (i : Nat) : List UInt8 := n.ops.getD i []
def nmOff (n : Net) (i : Nat) : List UInt8 := (offAt n i).name
def nmLin (n : Net) (i : Nat) : List UInt8 := (linAt n i).name
def nmCls (n : Net) (i : Nat) : List UInt8 := (clsAt n i).name
theorem calname_any (X : Nat) (n : Net) (i : Nat) (w : World) (h : NetP w X n) :
  Calls Tryz.prog 109 #[iV i, .pointer (some ⟨X, 0, none⟩)] w fun e w' => e = .returned (sV (nmCal n i)) /\ Below w.heap.size w w' := by
 have n1 : w.cell? ⟨X, 1, none⟩ = some (.slice n.namA n.names.length n.namC) := h.box 1 _ rfl
 have hl := h.net.lens.2.1
 unfold maxLen at hl
 by_cases hi : i < n.names.length
 ·obtain ⟨b, off, hA, -, hc⟩ := h.net.names.get (i := i) (by rw [List.length_map]; exact hi)
  have x0 : w.cell? ⟨b, off + i, none⟩ = some (sV (nmCal n i)) := hc i _ (by unfold nmCal; simp [List.getD, hi])
  rw [hA] at n1
  have j1 : (0 : Int) <= (i : Int) := by omega
  have j2 : (i : Int) < (n.names.length : Int) := by omega
  clear h hc hA
  go_enter Tryz.func109, Tryz.ntmps109
  go_wp2_with fail
  go_ret
  exact ⟨rfl, Below.refl _ _⟩
 ·have j2 : ¬ (i : Int) < (n.names.length : Int) := by omega
  have HR : Hid (nmCal n i = []) := by show _ = _; unfold nmCal; simp [List.getD, hi]
  clear h
  go_enter Tryz.func109, Tryz.ntmps109
  go_wp2_with fail
  go_ret
  exact ⟨by rw [HR.out]; rfl, Below.refl _ _⟩
theorem opname_any (X : Nat) (n : Net) (i : Nat) (w : World) (h : NetP w X n) (hi : i < n.ops.length) :
  Calls Tryz.prog 112 #[iV i, .pointer (some ⟨X, 0, none⟩)] w fun e w' => e = .returned (sV (nmOp n i)) /\ Below w.heap.size w w' := by
 have n1 : w.cell? ⟨X, 2, none⟩ = some (.slice n.opA n.ops.length n.opC) := h.box 2 _ rfl
 have hl := h.net.lens.2.2.1
 unfold maxLen at hl
 obtain ⟨b, off, hA, -, hc⟩ := h.net.ops.get (i := i) (by rw [List.length_map]; exact hi)
 have x0 : w.cell? ⟨b, off + i, none⟩ = some (sV (nmOp n i)) := hc i _ (by unfold nmOp; simp [List.getD, hi])
 rw [hA] at n1
 have j1 : (0 : Int) <= (i : Int) := by omega
 have j2 : (i : Int) < (n.ops.length : Int) := by omega
 clear h hc hA
 go_enter Tryz.func112, Tryz.ntmps112
 go_wp2_with fail
 go_ret
 exact ⟨rfl, Below.refl _ _⟩
theorem offname_any (X : Nat) (n : Net) (i : Nat) (w : World) (h : NetP w X n) (hi : i < n.offs.length) :
  Calls Tryz.prog 115 #[iV i, .pointer (some ⟨X, 0, none⟩)] w fun e w' => e = .returned (sV (nmOff n i)) /\ Below w.heap.size w w' := by
 have n1 : w.cell? ⟨X, 3, none⟩ = some (.slice n.offA n.offs.length n.offC) := h.box 3 _ rfl
 have hl := h.net.lens.2.2.2.1
 unfold maxLen at hl
 obtain ⟨-, b, off, hA, -, hc, -⟩ := elem_at encOff_len h.net.offs (offAt_get hi) (by omega)
 have x0 : w.cell? ⟨b, off + i * 7, none⟩ = some (sV (nmOff n i)) := hc _ rfl
 rw [hA] at n1
 have j1 : (0 : Int) <= (i : Int) := by omega
 have j2 : (i : Int) < (n.offs.length : Int) := by omega
 clear h hc hA
 go_enter Tryz.func115, Tryz.ntmps115
 go_wp2_with fail
 go_ret
 exact ⟨rfl, Below.refl _ _⟩
theorem linname_any (X : Nat) (n : Net) (i : Nat) (w : World) (h : NetP w X n) (hi : i < n.lins.length) :
  Calls Tryz.prog 119 #[iV i, .pointer (some ⟨X, 0, none⟩)] w fun e w' => e = .returned (sV (nmLin n i)) /\ Below w.heap.size w w' := by
 have n1 : w.cell? ⟨X, 4, none⟩ = some (.slice n.linA n.lins.length n.linC) := h.box 4 _ rfl
 have hl := h.net.lens.2.2.2.2.1
 unfold maxLen at hl
 obtain ⟨-, b, off, hA, -, hc, -⟩ := elem_at encLin_len h.net.lins (linAt_get hi) (by omega)
 have x0 : w.cell? ⟨b, off + i * 6, none⟩ = some (sV (nmLin n i)) := hc _ rfl
 rw [hA] at n1
 have j1 : (0 : Int) <= (i : Int) := by omega
 have j2 : (i : Int) < (n.lins.length : Int) := by omega
 clear h hc hA
 go_enter Tryz.func119, Tryz.ntmps119
 go_wp2_with fail
 go_ret
 exact ⟨rfl, Below.refl _ _⟩
theorem clsname_any (X : Nat) (n : Net) (i : Nat) (w : World) (h : NetP w X n) (hi : i < n.clss.length) :
  Calls Tryz.prog 123 #[iV i, .pointer (some ⟨X, 0, none⟩)] w fun e w' => e = .returned (sV (nmCls n i)) /\ Below w.heap.size w w' := by
 have n1 : w.cell? ⟨X, 5, none⟩ = some (.slice n.clsA n.clss.length n.clsC) := h.box 5 _ rfl
 have hl := h.net.lens.2.2.2.2.2
 unfold maxLen at hl
 obtain ⟨-, b, off, hA, -, hc, -⟩ := elem_at encCls_len h.net.clss (clsAt_get hi) (by omega)
 have x0 : w.cell? ⟨b, off + i * 3, none⟩ = some (sV (nmCls n i)) := hc _ rfl
 rw [hA] at n1
 have j1 : (0 : Int) <= (i : Int) := by omega
 have j2 : (i : Int) < (n.clss.length : Int) := by omega
 clear h hc hA
 go_enter Tryz.func123, Tryz.ntmps123
 go_wp2_with fail
 go_ret
 exact ⟨rfl, Below.refl _ _⟩
theorem opgood_any (s : List UInt8) (w : World) :
  Calls Tryz.prog 114 #[opV s] w fun e w' => e = .returned (.bool true) /\ Below w.heap.size w w' := by
 go_enter Tryz.func114, Tryz.ntmps114
 go_wp2_with fail
 go_ret
 exact ⟨rfl, (Below.refl _ _).alloc (Nat.le_refl _) _⟩
def clsB (k : Cls) : Bool := minuteB k.cut && minuteB k.deliver
theorem clsgood_any (k : Cls) (w : World) :
  Calls Tryz.prog 125 #[clsV k] w fun e w' => e = .returned (.bool (clsB k)) /\ Below w.heap.size w w' := by
 have HB := Lib.hid (ba w (.cells #[sV k.name, iV k.cut, iV k.deliver] 135))
 have hX := heap_alloc_new w (.cells #[sV k.name, iV k.cut, iV k.deliver] 135)
 have x1 : (w.alloc (.cells #[sV k.name, iV k.cut, iV k.deliver] 135)).cell? ⟨w.heap.size, 1, none⟩ = some (iV k.cut) := cell_of_row _ _ 1 _ _ _ hX
 have x2 : (w.alloc (.cells #[sV k.name, iV k.cut, iV k.deliver] 135)).cell? ⟨w.heap.size, 2, none⟩ = some (iV k.deliver) := cell_of_row _ _ 2 _ _ _ hX
 clear hX
 go_enter Tryz.func125, Tryz.ntmps125
 go_upto_region 1 with fail
 change Code.wp _ _ _ _ (w.alloc (.cells #[sV k.name, iV k.cut, iV k.deliver] 135))
 generalize (w.alloc (.cells #[sV k.name, iV k.cut, iV k.deliver] 135)) = W0 at *
 go_wp2_with fail
 refine (isminute_any _ _).mono ?_
 rintro e w2 ⟨rfl, rfl⟩
 cases h : minuteB k.cut
 ·have HR : Hid (clsB k = false) := by show _ = _; unfold clsB; rw [h]; rfl
  clear h
  go_wp2_with fail
  go_ret
  exact ⟨ret_bool HR.out.symm, HB.out⟩
 ·have HR : Hid (clsB k = minuteB k.deliver) := by show _ = _; unfold clsB; rw [h]; rfl
  clear h
  go_wp2_with fail
  refine (isminute_any _ _).mono ?_
  rintro e w2 ⟨rfl, rfl⟩
  go_wp2_with fail
  go_ret
  exact ⟨ret_bool HR.out.symm, HB.out⟩
theorem offgood_any (X : Nat) (n : Net) (o : Off) (w : World) (h : NetP w X n) (ho : OffIn w o) :
  Calls Tryz.prog 117 #[offV o, .pointer (some ⟨X, 0, none⟩)] w fun e w' => e = .returned (.bool (officeB n o)) /\ Below w.heap.size w w' := by
 have HB := Lib.hid (ba w (offO o))
 have HO := Lib.hid (ho.below HB.out)
 have HM : Hid (n.ops.length <= maxLen /\ n.cals.length <= maxLen) := ⟨h.net.lens.2.2.1, h.net.lens.1⟩
 have hX := heap_alloc_new w (offO o)
 have x0 : (w.alloc (offO o)).cell? ⟨w.heap.size, 0, none⟩ = some (sV o.name) := cell_of_row _ _ 0 _ _ _ hX
 have x1 : (w.alloc (offO o)).cell? ⟨w.heap.size, 1, none⟩ = some (iV o.op) := cell_of_row _ _ 1 _ _ _ hX
 have x2 : (w.alloc (offO o)).cell? ⟨w.heap.size, 2, none⟩ = some (iV o.cal) := cell_of_row _ _ 2 _ _ _ hX
 have x3 : (w.alloc (offO o)).cell? ⟨w.heap.size, 3, none⟩ = some (iV o.pockets) := cell_of_row _ _ 3 _ _ _ hX
 have x4 : (w.alloc (offO o)).cell? ⟨w.heap.size, 4, none⟩ = some (iV o.passes) := cell_of_row _ _ 4 _ _ _ hX
 have x5 : (w.alloc (offO o)).cell? ⟨w.heap.size, 5, none⟩ = some (iV o.minutes) := cell_of_row _ _ 5 _ _ _ hX
 have x6 : (w.alloc (offO o)).cell? ⟨w.heap.size, 6, none⟩ = some (.slice o.cA o.codes.length o.cc) := cell_of_row _ _ 6 _ _ _ hX
 have hb := h.below HB.out
 have n0 : (w.alloc (offO o)).cell? ⟨X, 0, none⟩ = some (.slice n.calA n.cals.length n.calC) := hb.box 0 _ rfl
 have n1 : (w.alloc (offO o)).cell? ⟨X, 1, none⟩ = some (.slice n.namA n.names.length n.namC) := hb.box 1 _ rfl
 have n2 : (w.alloc (offO o)).cell? ⟨X, 2, none⟩ = some (.slice n.opA n.ops.length n.opC) := hb.box 2 _ rfl
 have n3 : (w.alloc (offO o)).cell? ⟨X, 3, none⟩ = some (.slice n.offA n.offs.length n.offC) := hb.box 3 _ rfl
 have n4 : (w.alloc (offO o)).cell? ⟨X, 4, none⟩ = some (.slice n.linA n.lins.length n.linC) := hb.box 4 _ rfl
 have n5 : (w.alloc (offO o)).cell? ⟨X, 5, none⟩ = some (.slice n.clsA n.clss.length n.clsC) := hb.box 5 _ rfl
 clear hX h ho hb
 go_enter Tryz.func117, Tryz.ntmps117
 go_upto_region 1 with fail
 change Code.wp _ _ _ _ (w.alloc (offO o))
 generalize (w.alloc (offO o)) = W0 at *
 go_wp2_with fail
 refine (goodoffice_any n o _ HO.out HM.out).mono ?_
 rintro e w2 ⟨rfl, hb⟩
 have HB2 := Lib.hid (bt HB.out hb); clear hb
 go_wp2_with fail
 go_ret
 exact ⟨rfl, HB2.out⟩
theorem lingood_any (X : Nat) (n : Net) (l : Lin) (w : World) (h : NetP w X n) :
  Calls Tryz.prog 121 #[linV l, .pointer (some ⟨X, 0, none⟩)] w fun e w' => e = .returned (.bool (lineB n l)) /\ Below w.heap.size w w' := by
 have HB := Lib.hid (ba w (linO l))
 have HM : Hid (n.offs.length <= maxLen) := h.net.lens.2.2.2.1
 have hX := heap_alloc_new w (linO l)
 have x0 : (w.alloc (linO l)).cell? ⟨w.heap.size, 0, none⟩ = some (sV l.name) := cell_of_row _ _ 0 _ _ _ hX
 have x1 : (w.alloc (linO l)).cell? ⟨w.heap.size, 1, none⟩ = some (iV l.frm) := cell_of_row _ _ 1 _ _ _ hX
 have x2 : (w.alloc (linO l)).cell? ⟨w.heap.size, 2, none⟩ = some (iV l.to) := cell_of_row _ _ 2 _ _ _ hX
 have x3 : (w.alloc (linO l)).cell? ⟨w.heap.size, 3, none⟩ = some (iV l.at_) := cell_of_row _ _ 3 _ _ _ hX
 have x4 : (w.alloc (linO l)).cell? ⟨w.heap.size, 4, none⟩ = some (iV l.travel) := cell_of_row _ _ 4 _ _ _ hX
 have x5 : (w.alloc (linO l)).cell? ⟨w.heap.size, 5, none⟩ = some (iV l.load) := cell_of_row _ _ 5 _ _ _ hX
 have hb := h.below HB.out
 have n0 : (w.alloc (linO l)).cell? ⟨X, 0, none⟩ = some (.slice n.calA n.cals.length n.calC) := hb.box 0 _ rfl
 have n1 : (w.alloc (linO l)).cell? ⟨X, 1, none⟩ = some (.slice n.namA n.names.length n.namC) := hb.box 1 _ rfl
 have n2 : (w.alloc (linO l)).cell? ⟨X, 2, none⟩ = some (.slice n.opA n.ops.length n.opC) := hb.box 2 _ rfl
 have n3 : (w.alloc (linO l)).cell? ⟨X, 3, none⟩ = some (.slice n.offA n.offs.length n.offC) := hb.box 3 _ rfl
 have n4 : (w.alloc (linO l)).cell? ⟨X, 4, none⟩ = some (.slice n.linA n.lins.length n.linC) := hb.box 4 _ rfl
 have n5 : (w.alloc (linO l)).cell? ⟨X, 5, none⟩ = some (.slice n.clsA n.clss.length n.clsC) := hb.box 5 _ rfl
 clear hX h hb
 go_enter Tryz.func121, Tryz.ntmps121
 go_upto_region 1 with fail
 change Code.wp _ _ _ _ (w.alloc (linO l))
 generalize (w.alloc (linO l)) = W0 at *
 go_wp2_with fail
 refine (goodline_any n l _ HM.out).mono ?_
 rintro e w2 ⟨rfl, hb⟩
 have HB2 := Lib.hid (bt HB.out hb); clear hb
 go_wp2_with fail
 go_ret
 exact ⟨rfl, HB2.out⟩
def ChkR (w : World) (ok : Prop) (e : Ending) (w' : World) : Prop :=
 ∃ A m c xs, e = .returned (.slice A m c) /\ w'.ownsRow w.heap.size 150 3 (.slice A m c) m xs /\ (∀ x ∈ xs, x.oneCell' = true) /\ (m = 0 ↔ ok) /\ m <= 41 /\ Below w.heap.size w w'
def okAt {α : Type} (nm : Nat -> List UInt8) (gd : α -> Bool) (L : List α) (i : Nat) : Prop := nameB (nm i) = true /\ freshB nm i = true /\ ∀ x, L[i]? = some x -> gd x = true
theorem ftInfo : (Tryz.prog.info? 150).map (fun i => (i.zero, i.size, i.bytes)) = some (some (.agg #[iV 0, iV 0, iV 0]), 3, 24) := by kernel_rfl
theorem ok_snoc {α : Type} {nm : Nat -> List UInt8} {gd : α -> Bool} {L : List α} {m k : Nat} (h : m = 0 ↔ ∀ j < k, okAt nm gd L j) (hk : okAt nm gd L k) : m = 0 ↔ ∀ j < k + 1, okAt nm gd L j :=
 h.trans ⟨fun h j hj => by
  rcases Nat.lt_or_ge j k with h1 | h1
  ·exact h j h1
  ·obtain rfl : j = k := by omega
   exact hk, fun h j hj => h j (by omega)⟩
theorem ok_bad {α : Type} {nm : Nat -> List UInt8} {gd : α -> Bool} {L : List α} {m k : Nat} (hk : ¬ okAt nm gd L k) : m + 1 = 0 ↔ ∀ j < k + 1, okAt nm gd L j :=
 ⟨fun h => by omega, fun h => absurd (h k (by omega)) hk⟩
theorem one3 {xs : List Value} {a b c : Int} (h : ∀ x ∈ xs, x.oneCell' = true) : ∀ x ∈ xs ++ [iV a, iV b, iV c], x.oneCell' = true := by
 intro x hx
 rcases List.mem_append.1 hx with hx | hx
 ·exact h x hx
 ·simp at hx
  rcases hx with rfl | rfl | rfl <;> rfl
end Go.Proofs.YtpeaiphdkgifaaaGreatDoor
