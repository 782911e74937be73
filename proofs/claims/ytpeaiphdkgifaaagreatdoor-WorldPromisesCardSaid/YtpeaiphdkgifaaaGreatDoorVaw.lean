/- What really happens to items, in plain Lean: items, deeds, and how -/
import Derived.Test.YtpeaiphdkgifaaaGreatDoorVaj
import Derived.Lib.ItoaNum
import Derived.Test.YtpeaiphdkgifaaaGreatDoorVqTimDep
import Derived.BigRegion
namespace Go.Proofs.YtpeaiphdkgifaaaGreatDoor
open Go.RowKit
set_option maxHeartbeats 20000000
set_option maxRecDepth 100000
structure Pst where
 label : List UInt8
 frm : Int
 dst : Int
 cls : Int
 acc : Int
structure Ded where
 kind : Int
 time : Int
 post : Pst
 label : List UInt8
 other : List UInt8
 line : Int
structure Itm where
 post : Pst
 stops : List St
 lost : Bool
 since : List Int
 labs : List (List UInt8)
 seals : List (List UInt8)
 holds : Nat
 line : Int
 leave : Int
def cZ (line time : Int) : List UInt8 := 67 :: (Lib.itoa line ++ 46 :: Lib.itoa time)
def bq (it : Itm) : List UInt8 := it.labs.getLastD []
def gP (it : Itm) : Int := it.since.getLastD 0
def eh (n : Net) (l : Int) (t : Int) : Int × Int := aZ (calAt n (af n l.toNat).frm.toNat) (af n l.toNat) t
def bR (n : Net) (l : Int) : Nat -> Int -> Option Int
 | 0, t => if (eh n l t).2 = 0 then some (eh n l t).1 else none
 | c + 1, t => if (eh n l t).2 = 0 then bR n l c ((eh n l t).1 + 1) else none
def eP (n : Net) (it : Itm) : Int := max (ax (ap n (aj it.stops).office.toNat) (aj it.stops).arrive) (gP it)
def fv (n : Net) (nx : List NsC) (canc : List Int) (dst : Int) (it : Itm) : Int × Int :=
 if it.lost = true ∨ (aj it.stops).office = dst then (-1, 0) else
 if aX nx (aj it.stops).office.toNat dst.toNat < 0 ∨ aX nx (aj it.stops).office.toNat dst.toNat ∈ canc then (-1, 0) else
 match bR n (aX nx (aj it.stops).office.toNat dst.toNat) it.holds (eP n it) with
 | some v => (aX nx (aj it.stops).office.toNat dst.toNat, v)
 | none => (-1, 0)
def aY (n : Net) (nx : List NsC) (canc : List Int) (dst : Int) (it : Itm) : Itm := { it with line := (fv n nx canc dst it).1, leave := (fv n nx canc dst it).2 }
def cw (n : Net) (it : Itm) : Itm :=
 { it with stops := it.stops.dropLast ++ [{ aj it.stops with depart := it.leave, line := it.line }] ++ [⟨(af n it.line.toNat).to, it.leave + (af n it.line.toNat).travel, -1, -1⟩], seals := it.seals ++ [cZ it.line it.leave], holds := 0 }
def gy (n : Net) (nx : List NsC) (canc : List Int) (dst : Int) (it : Itm) : Itm := aY n nx canc dst (cw n it)
def eX (n : Net) (nx : List NsC) (canc : List Int) (dst before : Int) : Nat -> Itm -> Option Itm
 | 0, _ => none
 | f + 1, it => if 0 <= it.line /\ it.leave < before then if 20 <= it.stops.length then none else eX n nx canc dst before f (gy n nx canc dst it) else some it
def bQ (all : List Itm) (l : List UInt8) : Int := ((all.find? fun j => j.post.label == l).map (·.post.dst)).getD 0
def bw (all : List Itm) (it : Itm) : Int := bQ all (bq it)
def cK (n : Net) (nx : List NsC) (canc : List Int) (before : Int) (all : List Itm) : List Itm -> Option (List Itm)
 | [] => some []
 | it :: l => match eX n nx canc (bw all it) before 21 it with
  | none => none
  | some x => (cK n nx canc before all l).map (x :: ·)
structure Hst where
 items : List Itm
 canc : List Int
def gT (p : Pst) : Itm := ⟨p, [⟨p.frm, p.acc, -1, -1⟩], false, [p.acc], [p.label], [], 0, -1, 0⟩
def dO (n : Net) (it : Itm) : Itm :=
 if it.line < 0 then { it with holds := it.holds + 1 } else
 if (eh n it.line (it.leave + 1)).2 = 0 then { it with holds := it.holds + 1, leave := (eh n it.line (it.leave + 1)).1 } else { it with holds := it.holds + 1, line := -1, leave := 0 }
def bh (it : Itm) (l : List UInt8) (t : Int) : Itm := { it with since := it.since ++ [t], labs := it.labs ++ [l] }
def jH (all : List Itm) (l : List UInt8) : Option Itm := all.find? fun j => j.post.label == l
def lu (a b : Itm) (t : Int) : Bool := (aj a.stops).office == (aj b.stops).office && decide ((aj a.stops).arrive <= t) && decide ((aj b.stops).arrive <= t)
def u7 (n : Net) (nx : List NsC) (canc : List Int) (all : List Itm) (d : Ded) (a b i : Itm) : Itm :=
 if i.post.label == d.label then aY n nx canc (bQ all (bq b)) (bh i (bq b) d.time)
 else if i.post.label == d.other then aY n nx canc (bQ all (bq a)) (bh i (bq a) d.time) else i
def dR (n : Net) (nx : List NsC) (h : Hst) (d : Ded) : Hst :=
 if d.kind = 1 then { h with items := h.items ++ [aY n nx h.canc d.post.dst (gT d.post)] }
 else if d.kind = 2 then { h with items := h.items.map fun i => if i.post.label == d.label then aY n nx h.canc (bw h.items i) { i with lost := true } else i }
 else if d.kind = 3 then { h with items := h.items.map fun i => if i.post.label == d.label then dO n i else i }
 else if d.kind = 4 then
  match jH h.items d.label, jH h.items d.other with
  | some a, some b => if lu a b d.time then { h with items := h.items.map (u7 n nx h.canc h.items d a b) } else h
  | _, _ => h
 else { items := h.items.map fun i => if i.line = d.line then { i with line := -1, leave := 0 } else i, canc := d.line :: h.canc }
def kI : Int := 9223372036854775807
def re (n : Net) (nx : List NsC) : List Ded -> Hst -> Option Hst
 | [], h => (cK n nx h.canc kI h.items h.items).map fun l => { h with items := l }
 | d :: ds, h => match cK n nx h.canc d.time h.items h.items with
  | none => none
  | some l => re n nx ds (dR n nx { h with items := l } d)
def cX (n : Net) (nx : List NsC) (ds : List Ded) : Option Hst := re n nx ds ⟨[], []⟩
def gW (l : List UInt8) : Bool := l.all (fun c => (decide (65 <= c) && decide (c <= 90)) || (decide (48 <= c) && decide (c <= 57)) || c == 46) && decide (1 <= l.length) && decide (l.length <= 20)
def bD (ds : List Ded) : List (List UInt8) := (ds.filter fun d => d.kind == 1).map fun d => d.post.label
def iK (n : Net) (before : List Ded) (d : Ded) : Prop :=
 (d.kind = 1 /\ gW d.post.label = true /\ d.post.label ∉ bD before /\ (0 <= d.post.frm /\ d.post.frm < n.offs.length) /\ (0 <= d.post.dst /\ d.post.dst < n.offs.length) /\ (0 <= d.post.cls /\ d.post.cls < n.clss.length) /\ d.post.acc = d.time) ∨
 ((d.kind = 2 ∨ d.kind = 3) /\ d.label ∈ bD before) ∨
 (d.kind = 4 /\ d.label ∈ bD before /\ d.other ∈ bD before /\ d.label ≠ d.other) ∨
 (d.kind = 5 /\ 0 <= d.line /\ d.line < n.lins.length)
def bK (n : Net) : List Ded -> Int -> List Ded -> Prop
 | _, _, [] => True
 | before, t, d :: ds => t <= d.time /\ d.time <= 1000000 /\ iK n before d /\ bK n (before ++ [d]) d.time ds
structure ItA where
 b : Nat
 sB : Nat
 sC : Nat
 nB : Nat
 nC : Nat
 lB : Nat
 lC : Nat
 eA : Option Addr
 eC : Nat
def ItA.blks (a : ItA) : List Nat := [a.b, a.sB, a.nB, a.lB] ++ (a.eA.map (·.block)).toList
abbrev fQ (it : Itm) (a : ItA) (lv : Int) : Array Value := #[sV it.post.label, iV it.post.frm, iV it.post.dst, iV it.post.cls, iV it.post.acc, .slice (some (aV a.sB 0)) it.stops.length a.sC, .bool it.lost, .slice (some (aV a.nB 0)) it.since.length a.nC, .slice (some (aV a.lB 0)) it.labs.length a.lC, .slice a.eA it.seals.length a.eC, iV it.holds, iV it.line, iV lv]
structure cD (base : Nat) (W : World) (it : Itm) (a : ItA) : Prop where
 cells : ∃ lv, I64 lv /\ (0 <= it.line -> lv = it.leave) /\ W.heap[a.b]? = some (.cells (fQ it a lv) 103 (0, 0))
 ge : base <= a.b
 st : W.ownsRow base 50 4 (.slice (some (aV a.sB 0)) it.stops.length a.sC) it.stops.length (it.stops.flatMap bO)
 si : W.ownsRow base 3 1 (.slice (some (aV a.nB 0)) it.since.length a.nC) it.since.length (it.since.map iV)
 la : W.ownsRow base 9 1 (.slice (some (aV a.lB 0)) it.labs.length a.lC) it.labs.length (it.labs.map sV)
 se : W.ownsRow base 9 1 (.slice a.eA it.seals.length a.eC) it.seals.length (it.seals.map sV)
structure bz (S : List Nat) (W W' : World) : Prop where
 os : W'.os = W.os
 tape : W'.tape = W.tape
 output : W'.output = W.output
 size : W.heap.size <= W'.heap.size
 block : ∀ b, b < W.heap.size -> b ∉ S -> W'.heap[b]? = W.heap[b]?
theorem bz.refl (S : List Nat) (W : World) : bz S W W := ⟨rfl, rfl, rfl, aH _, fun _ _ _ => rfl⟩
theorem bz.trans {S T : List Nat} {A B C : World} (h : bz S A B) (k : bz T B C) (hT : ∀ b ∈ T, b ∈ S ∨ A.heap.size <= b) : bz S A C :=
 ⟨k.os.trans h.os, k.tape.trans h.tape, k.output.trans h.output, aG h.size k.size, fun b hb hs => (k.block b (Nat.lt_of_lt_of_le hb h.size) (fun ht => by
  rcases hT b ht with h1 | h1
  ·exact hs h1
  ·omega)).trans (h.block b hb hs)⟩
theorem bz.of_below {S : List Nat} {A B : World} (h : Below A.heap.size A B) : bz S A B := ⟨h.os, h.tape, h.output, h.size, fun b hb _ => h.block b hb⟩
theorem bz.of_grown {S : List Nat} {A B : World} {r : Option Nat} (h : A.grownBy B r) (hr : ∀ x, r = some x -> x ∈ S) : bz S A B := ⟨h.os, h.tape, h.output, h.size, fun b hb hs => h.block b hb (fun e => hs (hr b e.symm))⟩
theorem bz.mono {S T : List Nat} {A B : World} (h : bz S A B) (hs : ∀ b ∈ S, b ∈ T) : bz T A B := ⟨h.os, h.tape, h.output, h.size, fun b hb ht => h.block b hb (fun e => ht (hs b e))⟩
theorem bz.below {S : List Nat} {A B : World} {n : Nat} (h : bz S A B) (hn : n <= A.heap.size) (hs : ∀ b ∈ S, n <= b) : Below n A B := ⟨h.os, h.tape, h.output, h.size, fun b hb => h.block b (by omega) (fun e => by have := hs b e; omega)⟩
theorem cx {S : List Nat} {A B : World} {base : Nat} {e : TypeId} {s : Nat} {v : Value} {k : Nat} {xs : List Value} (h : A.ownsRow base e s v k xs) (hc : bz S A B) (hs : ∀ b, v.ownBlock = some b -> b ∉ S) : B.ownsRow base e s v k xs := by
 rcases h with ⟨h1, h2⟩
 refine ⟨h1, ?_⟩
 rcases h2 with h2 | ⟨g, cap, cur, rfl, hb, hg, r⟩
 ·exact .inl h2
 ·exact .inr ⟨g, cap, cur, rfl, hb, (hc.block g (aa hg) (hs g rfl)).trans hg, r⟩
theorem cD.chg {S : List Nat} {base : Nat} {A B : World} {it : Itm} {a : ItA} (h : cD base A it a) (hc : bz S A B) (hs : ∀ b ∈ a.blks, b ∉ S) : cD base B it a := by
 obtain ⟨lv, h1, h2, h3⟩ := h.cells
 refine ⟨⟨lv, h1, h2, (hc.block _ (aa h3) (hs _ (by simp [ItA.blks]))).trans h3⟩, h.ge, cx h.st hc ?_, cx h.si hc ?_, cx h.la hc ?_, cx h.se hc ?_⟩
 all_goals
  intro b hb
  refine hs b ?_
  unfold ItA.blks
 ·cases hb; simp
 ·cases hb; simp
 ·cases hb; simp
 ·cases he : a.eA with
  | none => rw [he] at hb; cases hb
  | some x => rw [he] at hb; cases hb; simp
theorem cD.below {base : Nat} {A B : World} {it : Itm} {a : ItA} (h : cD base A it a) (hb : Below A.heap.size A B) : cD base B it a := h.chg (S := []) (bz.of_below hb) (fun _ _ => by simp)
theorem dY {W : World} {base : Nat} {e : TypeId} {s : Nat} {v : Value} {k : Nat} {xs : List Value} (h : W.ownsRow base e s v k xs) {b : Nat} (hb : v.ownBlock = some b) : base <= b /\ b < W.heap.size := by
 rcases h.2 with ⟨rfl, -⟩ | ⟨g, cap, cur, rfl, hg, h2, -⟩
 ·cases hb
 ·cases hb
  exact ⟨hg, aa h2⟩
theorem cD.lt {base : Nat} {W : World} {it : Itm} {a : ItA} (h : cD base W it a) : ∀ b ∈ a.blks, base <= b /\ b < W.heap.size := by
 intro b hb
 unfold ItA.blks at hb
 simp only [List.mem_append, List.mem_cons, List.not_mem_nil, or_false, Option.mem_toList, Option.map_eq_some_iff] at hb
 rcases hb with (rfl | rfl | rfl | rfl) | ⟨x, hx, rfl⟩
 ·obtain ⟨lv, -, -, h3⟩ := h.cells
  exact ⟨h.ge, aa h3⟩
 ·exact dY h.st rfl
 ·exact dY h.si rfl
 ·exact dY h.la rfl
 ·exact dY h.se (by rw [hx]; rfl)
def jU (items : List Itm) (its : List ItA) (l : List UInt8) : Option Value := ((items.zip its).find? fun p => p.1.post.label == l).map fun p => .pointer (some (aV p.2.b 0))
def mS (canc : List Int) (x : Int) : Option Value := if x ∈ canc then some (.bool true) else none
structure HsA where
 hb : Nat
 nm : Nat
 cm : Nat
 iB : Option Addr
 iC : Nat
 its : List ItA
 ab : Nat
 av : Obj
 eb : Nat
 ev : Obj
def HsA.core (A : HsA) : Nat × Nat × Obj × Nat × Obj := (A.hb, A.ab, A.av, A.eb, A.ev)
def HsA.own (A : HsA) : List Nat := [A.hb, A.nm, A.cm, A.ab, A.eb] ++ (A.iB.map (·.block)).toList
def HsA.all (A : HsA) : List Nat := A.own ++ A.its.flatMap ItA.blks
structure fM (base : Nat) (W : World) (n : Net) (nxA : Option Addr) (nxL nxC : Nat) (h : Hst) (A : HsA) : Prop where
 blk : W.heap[A.hb]? = some (.cells #[.slice n.calA n.cals.length n.calC, .slice n.namA n.names.length n.namC, .slice n.opA n.ops.length n.opC, .slice n.offA n.offs.length n.offC, .slice n.linA n.lins.length n.linC, .slice n.clsA n.clss.length n.clsC, .slice nxA nxL nxC, .slice A.iB h.items.length A.iC, .map (some A.nm), .map (some A.cm)] 96 (0, 0))
 ge : base <= A.hb /\ base <= A.nm /\ base <= A.cm
 len : A.its.length = h.items.length
 row : W.ownsRow base 101 1 (.slice A.iB h.items.length A.iC) h.items.length (A.its.map fun a => .pointer (some (aV a.b 0)))
 nam : dG Tryz.prog 9 W A.nm h.items.length (mY (jU h.items A.its))
 can : ∃ m, dG Tryz.prog 3 W A.cm m (mH (mS h.canc))
 act : base <= A.ab /\ W.heap[A.ab]? = some A.av
 act2 : base <= A.eb /\ W.heap[A.eb]? = some A.ev
 item : ∀ (i : Nat) (it : Itm) (a : ItA), h.items[i]? = some it -> A.its[i]? = some a -> cD base W it a
 nodup : A.all.Nodup
theorem fM.lt {base : Nat} {W : World} {n : Net} {nxA : Option Addr} {nxL nxC : Nat} {h : Hst} {A : HsA} (H : fM base W n nxA nxL nxC h A) : ∀ b ∈ A.all, base <= b /\ b < W.heap.size := by
 intro b hb
 unfold HsA.all HsA.own at hb
 simp only [List.mem_append, List.mem_cons, List.not_mem_nil, or_false, Option.mem_toList, Option.map_eq_some_iff, List.mem_flatMap] at hb
 rcases hb with ((rfl | rfl | rfl | rfl | rfl) | ⟨x, hx, rfl⟩) | ⟨a, ha, hb⟩
 ·exact ⟨H.ge.1, aa H.blk⟩
 ·exact ⟨H.ge.2.1, H.nam.lt⟩
 ·obtain ⟨m, hm⟩ := H.can
  exact ⟨H.ge.2.2, hm.lt⟩
 ·exact ⟨H.act.1, aa H.act.2⟩
 ·exact ⟨H.act2.1, aa H.act2.2⟩
 ·exact dY H.row (by rw [hx]; rfl)
 ·obtain ⟨i, hi⟩ := List.getElem?_of_mem ha
  obtain ⟨it, hit⟩ : ∃ it, h.items[i]? = some it := ⟨_, aD (by have := (aE.1 hi).1; have := H.len; omega)⟩
  exact (H.item i it a hit hi).lt b hb
theorem fM.chg {S : List Nat} {base : Nat} {W W' : World} {n : Net} {nxA : Option Addr} {nxL nxC : Nat} {h : Hst} {A : HsA} (H : fM base W n nxA nxL nxC h A) (hc : bz S W W') (hs : ∀ b ∈ A.all, b ∉ S) : fM base W' n nxA nxL nxC h A := by
 have hown : ∀ b ∈ A.own, b ∉ S := fun b hb => hs b (aQ _ hb)
 obtain ⟨m, hm⟩ := H.can
 refine ⟨(hc.block _ (aa H.blk) (hown _ (by simp [HsA.own]))).trans H.blk, H.ge, H.len, cx H.row hc (fun b hb => hown b ?_), H.nam.kept (hc.block _ H.nam.lt (hown _ (by simp [HsA.own]))), ⟨m, hm.kept (hc.block _ hm.lt (hown _ (by simp [HsA.own])))⟩, ⟨H.act.1, (hc.block _ (aa H.act.2) (hown _ (by simp [HsA.own]))).trans H.act.2⟩, ⟨H.act2.1, (hc.block _ (aa H.act2.2) (hown _ (by simp [HsA.own]))).trans H.act2.2⟩, fun i it a h1 h2 => (H.item i it a h1 h2).chg hc (fun b hb => hs b (aP _ (List.mem_flatMap.2 ⟨a, aF h2, hb⟩))), H.nodup⟩
 cases he : A.iB with
 | none => rw [he] at hb; cases hb
 | some x => rw [he] at hb; cases hb; simp [HsA.own, he]
theorem fM.below {base : Nat} {W W' : World} {n : Net} {nxA : Option Addr} {nxL nxC : Nat} {h : Hst} {A : HsA} (H : fM base W n nxA nxL nxC h A) (hb : Below W.heap.size W W') : fM base W' n nxA nxL nxC h A := H.chg (S := []) (bz.of_below hb) (fun _ _ => by simp)
structure dS (base : Nat) (W W' : World) (a a' : ItA) (it' : Itm) : Prop where
 in_ : cD base W' it' a'
 chg : bz a.blks W W'
 new_ : ∀ b ∈ a'.blks, b ∈ a.blks ∨ W.heap.size <= b
 nodup : a'.blks.Nodup
 same : a'.b = a.b
theorem tV {α : Type} {f : α -> List Nat} {l : List α} {k : Nat} {a a' : α} {P : List Nat} {sz : Nat} (hn : (P ++ l.flatMap f).Nodup) (hk : l[k]? = some a) (hlt : ∀ b ∈ P ++ l.flatMap f, b < sz) (hnew : ∀ b ∈ f a', b ∈ f a ∨ sz <= b) (hnd : (f a').Nodup) : (P ++ (l.set k a').flatMap f).Nodup := by
 have hkl := (aE.1 hk).1
 obtain ⟨s, t, rfl, hs⟩ : ∃ s t, l = s ++ a :: t /\ s.length = k := ⟨l.take k, l.drop (k + 1), by
  rw [<- (aE.1 hk).2, <- List.drop_eq_getElem_cons hkl, List.take_append_drop], by simp; omega⟩
 have e : (s ++ a :: t).set k a' = s ++ a' :: t := by rw [<- hs]; simp
 rw [e]
 simp only [List.flatMap_append, List.flatMap_cons] at hn hlt ⊢
 have hp : (P ++ (s.flatMap f ++ (f a ++ t.flatMap f))).Perm (f a ++ (P ++ (s.flatMap f ++ t.flatMap f))) := by
  rw [<- List.append_assoc, <- List.append_assoc P]
  refine List.Perm.trans ?_ (List.perm_append_comm_assoc _ _ _).symm
  exact List.Perm.refl _
 have hp' : (P ++ (s.flatMap f ++ (f a' ++ t.flatMap f))).Perm (f a' ++ (P ++ (s.flatMap f ++ t.flatMap f))) := by
  rw [<- List.append_assoc, <- List.append_assoc P]
  exact (List.perm_append_comm_assoc _ _ _).symm
 rw [hp'.nodup_iff]
 rw [hp.nodup_iff] at hn
 obtain ⟨n1, n2, n3⟩ := List.nodup_append.1 hn
 refine List.nodup_append.2 ⟨hnd, n2, fun x hx y hy e => ?_⟩
 subst e
 rcases hnew x hx with h | h
 ·exact n3 x h x hy rfl
 ·have := hlt x (hp.mem_iff.2 (aP _ hy))
  omega
theorem fM.upd {base : Nat} {W W' : World} {n : Net} {nxA : Option Addr} {nxL nxC : Nat} {h : Hst} {A : HsA} (H : fM base W n nxA nxL nxC h A) {k : Nat} {it it' : Itm} {a a' : ItA} (h1 : h.items[k]? = some it) (h2 : A.its[k]? = some a) (hs : dS base W W' a a' it') (hp : it'.post = it.post) :
  fM base W' n nxA nxL nxC { h with items := h.items.set k it' } { A with its := A.its.set k a' } := by
 have hmem : ∀ b ∈ a.blks, b ∈ A.its.flatMap ItA.blks := fun b hb => List.mem_flatMap.2 ⟨a, aF h2, hb⟩
 have hown : ∀ b ∈ A.own, b ∉ a.blks := fun b hb hb2 => (List.nodup_append.1 H.nodup).2.2 b hb b (hmem b hb2) rfl
 have hoth : ∀ i x, i ≠ k -> A.its[i]? = some x -> ∀ b ∈ x.blks, b ∉ a.blks := fun i x hik hx b hb hb2 => by
  have hnd := (List.nodup_append.1 H.nodup).2.1
  obtain ⟨-, hpw⟩ := List.pairwise_flatMap.1 hnd
  rcases Nat.lt_or_gt_of_ne hik with hlt | hlt
  ·obtain ⟨g1, rfl⟩ := aE.1 hx
   obtain ⟨g2, rfl⟩ := aE.1 h2
   exact List.pairwise_iff_getElem.1 hpw i k g1 g2 hlt b hb b hb2 rfl
  ·obtain ⟨g1, rfl⟩ := aE.1 hx
   obtain ⟨g2, rfl⟩ := aE.1 h2
   exact List.pairwise_iff_getElem.1 hpw k i g2 g1 hlt b hb2 b hb rfl
 have hptr : (A.its.set k a').map (fun a => Value.pointer (some (aV a.b 0))) = A.its.map fun a => Value.pointer (some (aV a.b 0)) := by
  apply List.ext_getElem?
  intro i
  rw [aS, aS, List.getElem?_set]
  by_cases hik : k = i
  ·subst hik
   rw [if_pos rfl, if_pos (aE.1 h2).1, h2]
   simp [hs.same]
  ·rw [if_neg hik]
 have hnam : jU (h.items.set k it') (A.its.set k a') = jU h.items A.its := by
  funext l
  unfold jU
  have hz : ∀ (xs : List Itm) (ys : List ItA) (j : Nat) (x : Itm) (y : ItA), xs[j]? = some x -> ys[j]? = some y -> x.post = it'.post -> a'.b = y.b -> (((xs.set j it').zip (ys.set j a')).find? fun p => p.1.post.label == l).map (fun p => Value.pointer (some (aV p.2.b 0))) = ((xs.zip ys).find? fun p => p.1.post.label == l).map fun p => Value.pointer (some (aV p.2.b 0)) := by
   intro xs
   induction xs with
   | nil => intro ys j x y hx; simp at hx
   | cons z xs ih =>
    intro ys j x y hx hy hpo hb
    cases ys with
    | nil => simp at hy
    | cons w ys =>
     cases j with
     | zero =>
      simp at hx hy
      subst hx hy
      simp only [List.set_cons_zero, List.zip_cons_cons, List.find?_cons, <- hpo]
      split
      ·simp [hb]
      ·rfl
     | succ j =>
      simp only [List.set_cons_succ, List.zip_cons_cons, List.find?_cons]
      split
      ·rfl
      ·exact ih ys j x y hx hy hpo hb
  exact hz h.items A.its k it a h1 h2 hp.symm hs.same
 obtain ⟨m, hm⟩ := H.can
 refine ⟨?_, H.ge, by simp [H.len], ?_, ?_, ⟨m, hm.kept (hs.chg.block _ hm.lt (hown _ (by simp [HsA.own])))⟩, ⟨H.act.1, (hs.chg.block _ (aa H.act.2) (hown _ (by simp [HsA.own]))).trans H.act.2⟩, ⟨H.act2.1, (hs.chg.block _ (aa H.act2.2) (hown _ (by simp [HsA.own]))).trans H.act2.2⟩, fun i x y hx hy => ?_, ?_⟩
 ·have := (hs.chg.block _ (aa H.blk) (hown _ (by simp [HsA.own]))).trans H.blk
  simpa using this
 ·have := cx H.row hs.chg (fun b hb => hown b (by
   cases he : A.iB with
   | none => rw [he] at hb; cases hb
   | some x => rw [he] at hb; cases hb; simp [HsA.own, he]))
  simp only [List.length_set]
  rw [hptr]
  exact this
 ·have := H.nam.kept (hs.chg.block _ H.nam.lt (hown _ (by simp [HsA.own])))
  simp only [List.length_set]
  rw [hnam]
  exact this
 ·simp only at hx hy
  rw [List.getElem?_set] at hx hy
  by_cases hik : k = i
  ·subst hik
   rw [if_pos rfl, if_pos (aE.1 h1).1] at hx
   rw [if_pos rfl, if_pos (aE.1 h2).1] at hy
   cases hx
   cases hy
   exact hs.in_
  ·rw [if_neg hik] at hx hy
   exact (H.item i x y hx hy).chg hs.chg (hoth i y (fun e => hik e.symm) hy)
 ·exact tV (P := A.own) H.nodup h2 (fun b hb => (H.lt b hb).2) hs.new_ hs.nodup
theorem cD.cell {base : Nat} {W : World} {it : Itm} {a : ItA} (h : cD base W it a) : ∃ lv, I64 lv /\ (0 <= it.line -> lv = it.leave) /\ ∀ i v, (fQ it a lv)[i]? = some v -> W.cell? (aV a.b i) = some v := by
 obtain ⟨lv, h1, h2, h3⟩ := h.cells
 exact ⟨lv, h1, h2, fun i v hv => (aA _ h3).trans hv⟩
theorem qb (base : Nat) (it : Itm) (a : ItA) (w : World) (h : cD base w it a) (h1 : 1 <= it.stops.length) (h2 : it.stops.length <= 100) :
  Calls Tryz.prog 100 #[.pointer (some (aV a.b 0))] w fun e w' => e = .returned (.pointer (some (aV a.sB ((it.stops.length - 1) * 4)))) /\ Below w.heap.size w w' := by
 obtain ⟨lv, -, -, hc⟩ := h.cell
 have c5 : w.cell? (aV a.b 5) = some (.slice (some (aV a.sB 0)) it.stops.length a.sC) := hc 5 _ rfl
 clear h hc
 have e0 : (0 : Int) <= (it.stops.length : Int) - 1 := by omega
 have e1 : (it.stops.length : Int) - 1 < (it.stops.length : Int) := by omega
 have e2 : IntKind.i64.wrap ((it.stops.length : Int) - 1) = (it.stops.length : Int) - 1 := aO _ (by omega)
 have e3 : ((it.stops.length : Int) - 1).toNat = it.stops.length - 1 := by omega
 go_enter Tryz.func100, Tryz.ntmps100
 go_upto_region 1 with fail
 go_quiet (fail)
 go_wp2
 go_ret
 exact ⟨rfl, ai (aJ _ _) nq⟩
theorem jf (base : Nat) (it : Itm) (a : ItA) (w : World) (h : cD base w it a) (h1 : it.labs ≠ []) (h2 : it.labs.length <= 100000) :
  Calls Tryz.prog 146 #[.pointer (some (aV a.b 0))] w fun e w' => e = .returned (sV (bq it)) /\ Below w.heap.size w w' := by
 obtain ⟨lv, -, -, hc⟩ := h.cell
 have c8 : w.cell? (aV a.b 8) = some (.slice (some (aV a.lB 0)) it.labs.length a.lC) := hc 8 _ rfl
 have hp := aL.2 h1
 have hl : it.labs[it.labs.length - 1]? = some (bq it) := by
  unfold bq
  rw [List.getLastD_eq_getLast?, List.getLast?_eq_getElem?, aD (by omega)]
  rfl
 obtain ⟨b, off, hA, -, hcc⟩ := (cE h.la).get (i := it.labs.length - 1) (by simpa using by omega)
 cases hA
 have c9 : w.cell? (aV a.lB (it.labs.length - 1)) = some (sV (bq it)) := by
  have := hcc (it.labs.length - 1) (sV (bq it)) (by rw [aS, hl]; rfl)
  rwa [Nat.zero_add] at this
 clear h hc hcc hl
 generalize bq it = x at *
 generalize it.labs.length = L at *
 have e0 : (0 : Int) <= (L : Int) - 1 := by omega
 have e1 : (L : Int) - 1 < (L : Int) := by omega
 have e2 : IntKind.i64.wrap ((L : Int) - 1) = (L : Int) - 1 := aO _ (by omega)
 have e3 : ((L : Int) - 1).toNat = L - 1 := by omega
 go_enter Tryz.func146, Tryz.ntmps146
 go_upto_region 1 with fail
 go_quiet (fail)
 go_wp2
 go_ret
 exact ⟨rfl, ai (aJ _ _) nq⟩
structure Hop (n : Net) (a b : St) (e : List UInt8) : Prop where
 line : 0 <= a.line /\ a.line < n.lins.length
 frm : (af n a.line.toNat).frm = a.office
 ready : ax (ap n a.office.toNat) a.arrive <= a.depart
 dep : 0 <= a.depart /\ a.depart <= 2090000
 off : b.office = (af n a.line.toNat).to
 arr : b.arrive = a.depart + (af n a.line.toNat).travel
 seal_ : e = cZ a.line a.depart
 fix : a.depart <= 2000000 -> eh n a.line a.depart = (a.depart, 0)
def fK (n : Net) : List St -> List (List UInt8) -> Prop
 | [s], [] => s.depart = -1 /\ s.line = -1
 | a :: b :: l, e :: es => Hop n a b e /\ fK n (b :: l) es
 | _, _ => False
theorem i8 (l : List St) (s : St) : aj (l ++ [s]) = s := by simp [aj]
theorem lP {l : List St} (h : l ≠ []) : l = l.dropLast ++ [aj l] := by
 unfold aj
 rw [List.getLastD_eq_getLast?, List.getLast?_eq_some_getLast h]
 simp [List.dropLast_concat_getLast]
theorem fP {n : Net} {l : List St} {es : List (List UInt8)} (h : fK n l es) : l ≠ [] := by
 rintro rfl
 exact h
theorem ms {n : Net} : ∀ {l : List St} {es : List (List UInt8)}, fK n l es -> es.length + 1 = l.length
 | [_], [], _ => rfl
 | _ :: b :: l, _ :: es, h => by
  have := ms h.2
  simp at this ⊢
  omega
theorem nv {n : Net} {s s' u : St} {e : List UInt8} (ho : s'.office = s.office) (ha : s'.arrive = s.arrive) (hh : Hop n s' u e) (hu : u.depart = -1 /\ u.line = -1) : ∀ {l : List St} {es : List (List UInt8)}, fK n (l ++ [s]) es -> fK n (l ++ [s'] ++ [u]) (es ++ [e])
 | [], [], _ => ⟨hh, hu⟩
 | [], _ :: _, h => by simp [fK] at h
 | [a], [], h => by simp [fK] at h
 | [a], [e1], h => by
  obtain ⟨h1, h2⟩ := h
  exact ⟨⟨h1.line, h1.frm, h1.ready, h1.dep, ho.trans h1.off, ha.trans h1.arr, h1.seal_, h1.fix⟩, hh, hu⟩
 | [a], e1 :: e2 :: es, h => by simp [fK] at h
 | a :: b :: l, [], h => by simp [fK] at h
 | a :: b :: l, e1 :: es, h => ⟨h.1, nv ho ha hh hu (l := b :: l) h.2⟩
structure fL (n : Net) (it : Itm) : Prop where
 path : fK n it.stops it.seals
 head : ∃ s l, it.stops = s :: l /\ s.office = it.post.frm /\ s.arrive = it.post.acc
 len : it.stops.length <= 20
 offs : ∀ s ∈ it.stops, 0 <= s.office /\ s.office < n.offs.length /\ 0 <= s.arrive /\ s.arrive <= 2100000
 labs : it.since.length = it.labs.length /\ it.labs ≠ []
 sin : ∀ t ∈ it.since, 0 <= t /\ t <= 1000000
def dF (n : Net) (nx : List NsC) (canc : List Int) (dst : Int) (it : Itm) : Prop := it.line = (fv n nx canc dst it).1 /\ it.leave = (fv n nx canc dst it).2
theorem fu (n : Net) (nx : List NsC) (canc : List Int) (dst : Int) (it : Itm) : dF n nx canc dst (aY n nx canc dst it) := ⟨rfl, rfl⟩
theorem kD {n : Net} {l t v : Int} (hG : cY n) (h1 : 0 <= l) (h2 : l < n.lins.length) (h : eh n l t = (v, 0)) : t <= v /\ v <= t + 90000 /\ 0 <= t /\ t <= 2000000 /\ (v <= 2000000 -> eh n l v = (v, 0)) := by
 have hL := hG.lin _ (aF (bC (n := n) (l := l.toNat) (by omega)))
 unfold eh aZ at h ⊢
 by_cases ht : tOk t = true
 ·rw [if_pos ht] at h
  have h3 := cf hL.2.2.1 hL.2.2.2.1 h
  have h4 : 0 <= t /\ t <= 2000000 := by unfold tOk at ht; simpa using ht
  refine ⟨h3.1, h3.2, h4.1, h4.2, fun hv => ?_⟩
  rw [if_pos (by unfold tOk; simp; omega)]
  exact jV hL.2.2.1 hL.2.2.2.1 h3.1 (Int.le_refl _) h
 ·rw [if_neg ht] at h
  cases congrArg Prod.snd h
theorem nD {n : Net} {l : Int} (hG : cY n) (h1 : 0 <= l) (h2 : l < n.lins.length) : ∀ {c : Nat} {t v : Int}, bR n l c t = some v -> t <= v /\ v <= 2090000 /\ 0 <= v /\ (v <= 2000000 -> eh n l v = (v, 0))
 | 0, t, v, h => by
  unfold bR at h
  split at h
  ·rename_i g
   cases h
   obtain ⟨a1, a2, a3, a4, a5⟩ := kD (v := (eh n l t).1) (t := t) hG h1 h2 (by rw [<- g])
   exact ⟨a1, by omega, by omega, a5⟩
  ·cases h
 | c + 1, t, v, h => by
  unfold bR at h
  split at h
  ·rename_i g
   obtain ⟨a1, a2, a3, a4, a5⟩ := kD (v := (eh n l t).1) (t := t) hG h1 h2 (by rw [<- g])
   obtain ⟨b1, b2, b3, b4⟩ := nD hG h1 h2 h
   exact ⟨by omega, b2, b3, b4⟩
  ·cases h
theorem iZ (n : Net) (l : Int) : ∀ (c : Nat) (t : Int), bR n l (c + 1) t = match bR n l c t with | some v => if (eh n l (v + 1)).2 = 0 then some (eh n l (v + 1)).1 else none | none => none
 | 0, t => by
  rw [bR]
  by_cases h : (eh n l t).2 = 0
  ·simp [h, bR]
  ·simp [h, bR]
 | c + 1, t => by
  rw [bR]
  by_cases h : (eh n l t).2 = 0
  ·rw [if_pos h, iZ n l c]
   conv => rhs; rw [bR, if_pos h]
  ·rw [if_neg h]
   conv => rhs; rw [bR, if_neg h]
structure jk (n : Net) (nx : List NsC) (canc : List Int) (dst : Int) (it : Itm) (l v : Int) : Prop where
 lost : it.lost = false
 away : (aj it.stops).office ≠ dst
 nx_ : aX nx (aj it.stops).office.toNat dst.toNat = l
 nc : l ∉ canc
 ge : 0 <= l
 at_ : bR n l it.holds (eP n it) = some v
theorem dP (n : Net) (nx : List NsC) (canc : List Int) (dst : Int) (it : Itm) : (fv n nx canc dst it = (-1, 0)) ∨ ∃ l v, fv n nx canc dst it = (l, v) /\ jk n nx canc dst it l v := by
 unfold fv
 split
 ·exact .inl rfl
 ·rename_i h1
  split
  ·exact .inl rfl
  ·rename_i h2
   split
   ·rename_i v hv
    refine .inr ⟨_, _, rfl, ?_, ?_, rfl, ?_, ?_, hv⟩
    ·cases hl : it.lost
     ·rfl
     ·exact absurd (.inl hl) h1
    ·exact fun e => h1 (.inr e)
    ·exact fun e => h2 (.inr e)
    ·have : ¬ aX nx (aj it.stops).office.toNat dst.toNat < 0 := fun e => h2 (.inl e)
     omega
   ·exact .inl rfl
theorem iE {n : Net} {nx : List NsC} {canc : List Int} {dst : Int} {it : Itm} {l v : Int} (h : jk n nx canc dst it l v) : fv n nx canc dst it = (l, v) := by
 unfold fv
 rw [if_neg (by rw [h.lost]; intro e; rcases e with e | e; exact absurd e (by decide); exact h.away e), h.nx_, if_neg (by intro e; rcases e with e | e; exact absurd h.ge (by omega); exact h.nc e), h.at_]
theorem dF.goes {n : Net} {nx : List NsC} {canc : List Int} {dst : Int} {it : Itm} (h : dF n nx canc dst it) (hl : 0 <= it.line) : jk n nx canc dst it it.line it.leave := by
 rcases dP n nx canc dst it with e | ⟨l, v, e, g⟩
 ·have := h.1
  rw [e] at this
  rw [this] at hl
  exact absurd hl (by decide)
 ·have h1 := h.1
  have h2 := h.2
  rw [e] at h1 h2
  rw [h1, h2]
  exact g
theorem kP {n : Net} {nx : List NsC} (hF : bi n nx) {o d : Nat} (ho : o < n.offs.length) (hd : d < n.offs.length) : aX nx o d = -1 ∨ 0 <= aX nx o d /\ aX nx o d < n.lins.length /\ (af n (aX nx o d).toNat).frm = o := by
 obtain ⟨r, h1, h2, h3⟩ := hF.2 o ho
 have e : aX nx o d = r.ns.getD d (-1) := by
  unfold aX
  congr 1
  rw [List.getD_eq_getElem?_getD, aS, h1]
  rfl
 rw [e, List.getD_eq_getElem?_getD, aD (by omega)]
 exact h3 _ (List.getElem_mem ..)
theorem mJ {n : Net} {nx : List NsC} {canc : List Int} {dst : Int} {it : Itm} (hG : cY n) (hF : bi n nx) (hi : fL n it) (hd : 0 <= dst /\ dst < n.offs.length) (h : dF n nx canc dst it) (hl : 0 <= it.line) :
  it.line < n.lins.length /\ (af n it.line.toNat).frm = (aj it.stops).office /\ eP n it <= it.leave /\ 0 <= it.leave /\ it.leave <= 2090000 /\ (it.leave <= 2000000 -> eh n it.line it.leave = (it.leave, 0)) := by
 have g := h.goes hl
 have ho := hi.offs (aj it.stops) (by rw [lP (fP hi.path)]; simp [i8])
 have h1 := kP hF (o := (aj it.stops).office.toNat) (d := dst.toNat) (by omega) (by omega)
 rw [g.nx_] at h1
 rcases h1 with e | ⟨-, e2, e3⟩
 ·omega
 ·obtain ⟨a1, a2, a3, a4⟩ := nD hG hl e2 g.at_
  exact ⟨e2, by rw [e3]; omega, a1, a3, a2, a4⟩
theorem qi {n : Net} {nx : List NsC} {canc : List Int} {dst : Int} {it : Itm} (hG : cY n) (hF : bi n nx) (hi : fL n it) (hd : 0 <= dst /\ dst < n.offs.length) (h : dF n nx canc dst it) (hl : 0 <= it.line) (h20 : it.stops.length < 20) : fL n (cw n it) := by
 obtain ⟨a1, a2, a3, a4, a5, a6⟩ := mJ hG hF hi hd h hl
 have hne := fP hi.path
 have hs := lP hne
 have ho := hi.offs (aj it.stops) (by rw [hs]; simp [i8])
 have hL := hG.lin _ (aF (bC (n := n) (l := it.line.toNat) (by omega)))
 have hlen : it.stops.length = it.stops.dropLast.length + 1 := by rw [List.length_dropLast]; have := aL.2 hne; omega
 refine ⟨?_, ?_, ?_, ?_, hi.labs, hi.sin⟩
 ·have hp := hi.path
  rw [hs] at hp
  refine nv (s := aj it.stops) (s' := { aj it.stops with depart := it.leave, line := it.line }) (u := ⟨(af n it.line.toNat).to, it.leave + (af n it.line.toNat).travel, -1, -1⟩) (e := cZ it.line it.leave) rfl rfl ⟨⟨hl, a1⟩, a2, ?_, ⟨a4, a5⟩, rfl, rfl, rfl, a6⟩ ⟨rfl, rfl⟩ hp
  show ax _ _ <= it.leave
  unfold eP at a3
  exact Int.le_trans (Int.le_max_left _ _) a3
 ·obtain ⟨s, l, e1, e2, e3⟩ := hi.head
  unfold cw
  cases l with
  | nil => exact ⟨{ s with depart := it.leave, line := it.line }, _, by rw [e1]; rfl, e2, e3⟩
  | cons u l => exact ⟨s, _, by rw [e1]; rfl, e2, e3⟩
 ·show (it.stops.dropLast ++ [_] ++ [_]).length <= 20
  simp only [List.length_append, List.length_cons, List.length_nil]
  omega
 ·intro s hm
  rcases List.mem_append.1 hm with hm | hm
  ·rcases List.mem_append.1 hm with hm | hm
   ·exact hi.offs s ((List.dropLast_sublist _).subset hm)
   ·rw [aR.1 hm]
    exact ho
  ·rw [aR.1 hm]
   refine ⟨hL.2.1.1, hL.2.1.2, ?_, ?_⟩
   ·show 0 <= it.leave + _
    omega
   ·show it.leave + _ <= 2100000
    omega
theorem sU (n : Net) (l B : Nat) (t : Int) (w : World) (hn : bj w n) (hl : l < n.lins.length) (ht : t < 0 ∨ 2000000 < t) (hB : w.cell? (aV B 0) = some (iV t)) :
  Calls Tryz.prog 44 #[bB n, iV l, .slice (some (aV B 0)) 1 1] w fun e w' => e = .returned (.bool false) /\ Below w.heap.size w w' := by
 have hb0 := ba w (ae n)
 have hx0 := aC w (ae n)
 have hll := hn.lens.2.2.2.2.1
 unfold maxLen at hll
 have HNP : Hid (br (w.alloc (ae n)) w.heap.size n) := ⟨fun i v hv => (aA _ hx0).trans hv, hn.below hb0⟩
 have HB0 := aB hb0
 have b0 := (hb0.cell (p := (aV B 0)) (aM w _ hB)).trans hB
 have n4 : (w.alloc (ae n)).cell? (aV w.heap.size 4) = some (.slice n.linA n.lins.length n.linC) := HNP.out.box 4 _ rfl
 have j1 : ¬ (l : Int) < 0 := by omega
 have j2 : ¬ (n.lins.length : Int) <= (l : Int) := by omega
 have HT := aB ht
 clear hn hb0 hx0 hB ht
 go_enter Tryz.func44, Tryz.ntmps44
 go_upto_region 1 with fail
 change Code.wp _ _ _ _ (w.alloc (ae n))
 generalize (w.alloc (ae n)) = W at *
 generalize hX : w.heap.size = X at *
 have HX := aB hX; clear hX
 go_wp2_with fail
 go_loop [20] (fun i => i = iV 0) (fun i => 1 - (intOf i).toNat)
 case atStart => rfl
 case round =>
 subst hrel
 rcases HT.out with ht | ht
 ·go_wp2_with fail
  go_ret
  exact ⟨rfl, by have h := HB0.out; rw [<- HX.out] at h; exact h⟩
 ·have t1 : ¬ t < 0 := by omega
  go_wp2_with fail
  go_ret
  exact ⟨rfl, by have h := HB0.out; rw [<- HX.out] at h; exact h⟩
theorem qY (n : Net) (l : Nat) (t : Int) (w : World) (hn : bj w n) (hl : l < n.lins.length) (ht : t < 0 ∨ 2000000 < t) :
  Calls Tryz.prog 15 #[bB n, iV l, iV t] w fun e w' => e = .returned (.tuple #[iV 0, iV 1]) /\ Below w.heap.size w w' := by
 have hx0 := aC w (ae n)
 have hb0 := ba w (ae n)
 have HNP : Hid (br (w.alloc (ae n)) w.heap.size n) := ⟨fun i v hv => (aA _ hx0).trans hv, hn.below hb0⟩
 have HB0 := aB hb0
 have HT := aB ht
 have n0 : (w.alloc (ae n)).cell? (aV w.heap.size 0) = some (.slice n.calA n.cals.length n.calC) := HNP.out.box 0 _ rfl
 have n1 : (w.alloc (ae n)).cell? (aV w.heap.size 1) = some (.slice n.namA n.names.length n.namC) := HNP.out.box 1 _ rfl
 have n2 : (w.alloc (ae n)).cell? (aV w.heap.size 2) = some (.slice n.opA n.ops.length n.opC) := HNP.out.box 2 _ rfl
 have n3 : (w.alloc (ae n)).cell? (aV w.heap.size 3) = some (.slice n.offA n.offs.length n.offC) := HNP.out.box 3 _ rfl
 have n4 : (w.alloc (ae n)).cell? (aV w.heap.size 4) = some (.slice n.linA n.lins.length n.linC) := HNP.out.box 4 _ rfl
 have n5 : (w.alloc (ae n)).cell? (aV w.heap.size 5) = some (.slice n.clsA n.clss.length n.clsC) := HNP.out.box 5 _ rfl
 clear hn hx0 hb0 ht
 go_enter Tryz.func15, Tryz.ntmps15
 go_upto_region 1 with fail
 change Code.wp _ _ _ _ (w.alloc (ae n))
 generalize (w.alloc (ae n)) = W at *
 generalize hX : w.heap.size = X at *
 have HX := aB hX; clear hX
 go_wp2_with fail
 have hx1 := aC W (.cells #[iV t] 3)
 have hb1 := ba W (.cells #[iV t] 3)
 refine (sU n l W.heap.size t _ (HNP.out.net.below hb1) hl HT.out (aA 0 hx1)).mono ?_
 rintro e w1 ⟨rfl, hb⟩
 have HB1 := aB (bt hb1 hb)
 clear hb hb1 hx1 n0 n1 n2 n3 n4 n5
 go_wp2_with fail
 go_ret2
 exact ⟨rfl, by have h := HB0.out; rw [<- HX.out] at h; exact bt h HB1.out⟩
theorem pB (n : Net) (l t : Int) (w : World) (hn : bj w n) (hk : KW w) (hs : bM n) (h0 : 0 <= l) (h1 : l < n.lins.length) :
  Calls Tryz.prog 15 #[bB n, iV l, iV t] w fun e w' => e = .returned (.tuple #[iV (eh n l t).1, iV (eh n l t).2]) /\ Below w.heap.size w w' := by
 obtain ⟨k, rfl⟩ : ∃ k : Nat, l = (k : Int) := ⟨l.toNat, by omega⟩
 have hG := hs.1.good
 have hk1 : k < n.lins.length := by omega
 have hL := hG.lin _ (aF (bC hk1))
 by_cases ht : tOk t = true
 ·obtain ⟨ci, c1, c2, c3⟩ := hG.calAt (o := (af n k).frm.toNat) (by omega)
  exact pA n k (af n k).frm.toNat ci (af n k) (ap n (af n k).frm.toNat) (calAt n (af n k).frm.toNat) t w hn hk hs (bC hk1) (by omega) (bd (by omega)) c1 c2 c3 hL.2.2.1 hL.2.2.2.1 ht
 ·have e : eh n (k : Int) t = (0, 1) := by
   unfold eh aZ
   rw [if_neg ht]
  rw [e]
  refine qY n k t w hn hk1 ?_
  unfold tOk at ht
  simp at ht
  omega
section
open Go.Maps (Keyed)
theorem vX : Keyed Tryz.prog 9 := Maps.string_keyed Tryz.underlying9
theorem ky : Keyed Tryz.prog 3 := Maps.int_keyed Tryz.underlying3
theorem sd (w : World) : (zeroValue 101).run Tryz.prog w = .ok (.pointer none) w := by kernel_rfl
theorem pf (w : World) : (zeroValue 4).run Tryz.prog w = .ok (.bool false) w := by kernel_rfl
theorem kx (l : List UInt8) (h : l.length <= maxLen) : keyOf Tryz.prog 9 (sV l) = some (.string l) := by
 have := WideMaps.keyOf_string_mk Tryz.underlying9 (s := ⟨l.toArray⟩) (by show l.toArray.size <= maxLen; simpa using h)
 simpa using this
theorem dD (x : Int) (h : I64 x) : keyOf Tryz.prog 3 (iV x) = some (.int .i64 x) := Maps.keyOf_int_mk Tryz.underlying3 (WalkArith.wf_i64 h)
theorem oH : ∀ (items : List Itm) (its : List ItA) (l : List UInt8), its.length = items.length -> (∃ i ∈ items, i.post.label = l) -> ∃ (j : Nat) (x : Itm) (y : ItA), items[j]? = some x /\ its[j]? = some y /\ x.post.label = l /\ jU items its l = some (.pointer (some (aV y.b 0))) /\ jH items l = some x
 | [], _, l, _, h => by obtain ⟨i, hi, -⟩ := h; cases hi
 | x :: items, [], l, h, _ => by simp at h
 | x :: items, y :: its, l, h, hm => by
  unfold jU jH
  by_cases hx : x.post.label = l
  ·exact ⟨0, x, y, rfl, rfl, hx, by simp [hx], by simp [hx]⟩
  ·obtain ⟨j, x', y', a1, a2, a3, a4, a5⟩ := oH items its l (by simpa using h) (by
    obtain ⟨i, hi, e⟩ := hm
    rcases List.mem_cons.1 hi with rfl | hi
    ·exact absurd e hx
    ·exact ⟨i, hi, e⟩)
   refine ⟨j + 1, x', y', a1, a2, a3, ?_, ?_⟩
   ·unfold jU at a4
    simp [hx, a4]
   ·unfold jH at a5
    simp [hx, a5]
theorem qW {items : List Itm} {l : List UInt8} {x : Itm} (h : jH items l = some x) : bQ items l = x.post.dst := by
 unfold bQ
 unfold jH at h
 rw [h]
 rfl
theorem cD.store {base : Nat} {W : World} {it it' : Itm} {a : ItA} {lv lv' : Int} {i : Nat} {v : Value} (h : cD base W it a) (hc : W.heap[a.b]? = some (.cells (fQ it a lv) 103 (0, 0))) (hnd : a.blks.Nodup) (he : (fQ it a lv).setIfInBounds i v = fQ it' a lv')
  (e1 : it'.stops = it.stops) (e2 : it'.since = it.since) (e3 : it'.labs = it.labs) (e4 : it'.seals = it.seals) (hl : I64 lv' /\ (0 <= it'.line -> lv' = it'.leave)) : cD base (W.setCell (aV a.b i) v) it' a := by
 have hg : bz [a.b] W (W.setCell (aV a.b i) v) := ⟨rfl, rfl, rfl, by simp, fun b _ hb => Below.heap_setCell _ _ _ _ (by show b ≠ a.b; simpa using hb)⟩
 have hn : ∀ b ∈ [a.sB, a.nB, a.lB] ++ (a.eA.map (·.block)).toList, b ∉ [a.b] := fun b hb hb2 => by
  rw [aR.1 hb2] at hb
  have hnd' : (a.b :: ([a.sB, a.nB, a.lB] ++ (a.eA.map (·.block)).toList)).Nodup := hnd
  exact (List.nodup_cons.1 hnd').1 hb
 have hr := bE hc i v
 rw [he] at hr
 refine ⟨⟨lv', hl.1, hl.2, hr⟩, h.ge, ?_, ?_, ?_, ?_⟩
 ·rw [e1]
  exact cx h.st hg (fun b hb => hn b (by cases hb; simp))
 ·rw [e2]
  exact cx h.si hg (fun b hb => hn b (by cases hb; simp))
 ·rw [e3]
  exact cx h.la hg (fun b hb => hn b (by cases hb; simp))
 ·rw [e4]
  refine cx h.se hg (fun b hb => hn b ?_)
  cases hx : a.eA with
  | none => rw [hx] at hb; cases hb
  | some x => rw [hx] at hb; cases hb; simp
theorem dW {W : World} {b : Nat} (i : Nat) (v : Value) (S : List Nat) (h : b ∈ S) : bz S W (W.setCell (aV b i) v) := ⟨rfl, rfl, rfl, by simp, fun c _ hc => Below.heap_setCell _ _ _ _ (by show c ≠ b; intro e; exact hc (e ▸ h))⟩
theorem cO {α : Type} {l : List α} {k : Nat} {a : α} (h : l[k]? = some a) : l.set k a = l := by
 apply List.ext_getElem?
 intro i
 rw [List.getElem?_set]
 by_cases hik : k = i
 ·subst hik
  rw [if_pos rfl, if_pos (aE.1 h).1, h]
 ·rw [if_neg hik]
theorem fM.blks {base : Nat} {W : World} {n : Net} {nxA : Option Addr} {nxL nxC : Nat} {h : Hst} {A : HsA} (H : fM base W n nxA nxL nxC h A) {k : Nat} {a : ItA} (h2 : A.its[k]? = some a) : a.blks.Nodup /\ (∀ b ∈ a.blks, base <= b /\ b < W.heap.size) /\ ∀ b ∈ A.own, b ∉ a.blks := by
 have hm : ∀ b ∈ a.blks, b ∈ A.its.flatMap ItA.blks := fun b hb => List.mem_flatMap.2 ⟨a, aF h2, hb⟩
 obtain ⟨n1, n2, n3⟩ := List.nodup_append.1 H.nodup
 exact ⟨(List.pairwise_flatMap.1 n2).1 a (aF h2), fun b hb => H.lt b (aP _ (hm b hb)), fun b hb hb2 => n3 b hb b (hm b hb2) rfl⟩
structure WdH (w W : World) (n : Net) (nx : List NsC) (nxA : Option Addr) (nxC : Nat) (h : Hst) (A : HsA) : Prop where
 old : bj w n /\ Tab w nxA nx /\ KW w
 hs : fM w.heap.size W n nxA nx.length nxC h A
 bel : Below w.heap.size w W
theorem WdH.net {w W : World} {n : Net} {nx : List NsC} {nxA : Option Addr} {nxC : Nat} {h : Hst} {A : HsA} (H : WdH w W n nx nxA nxC h A) : bj W n := H.old.1.below H.bel
theorem WdH.tab {w W : World} {n : Net} {nx : List NsC} {nxA : Option Addr} {nxC : Nat} {h : Hst} {A : HsA} (H : WdH w W n nx nxA nxC h A) : Tab W nxA nx := H.old.2.1.below H.bel
theorem WdH.kw {w W : World} {n : Net} {nx : List NsC} {nxA : Option Addr} {nxC : Nat} {h : Hst} {A : HsA} (H : WdH w W n nx nxA nxC h A) : KW W := H.old.2.2.below H.bel
theorem WdH.below {w W W' : World} {n : Net} {nx : List NsC} {nxA : Option Addr} {nxC : Nat} {h : Hst} {A : HsA} (H : WdH w W n nx nxA nxC h A) (hb : Below W.heap.size W W') : WdH w W' n nx nxA nxC h A := ⟨H.old, H.hs.below hb, bt H.bel hb⟩
theorem WdH.upd {w W W' : World} {n : Net} {nx : List NsC} {nxA : Option Addr} {nxC : Nat} {h : Hst} {A : HsA} (H : WdH w W n nx nxA nxC h A) {k : Nat} {it it' : Itm} {a a' : ItA} (h1 : h.items[k]? = some it) (h2 : A.its[k]? = some a) (hs : dS w.heap.size W W' a a' it') (hp : it'.post = it.post) :
  WdH w W' n nx nxA nxC { h with items := h.items.set k it' } { A with its := A.its.set k a' } :=
 ⟨H.old, H.hs.upd h1 h2 hs hp, H.bel.trans (hs.chg.below H.bel.size (fun b hb => ((H.hs.blks h2).2.1 b hb).1))⟩
theorem fM.cell {base : Nat} {W : World} {n : Net} {nxA : Option Addr} {nxL nxC : Nat} {h : Hst} {A : HsA} (H : fM base W n nxA nxL nxC h A) {i : Nat} {v : Value} (hv : (#[.slice n.calA n.cals.length n.calC, .slice n.namA n.names.length n.namC, .slice n.opA n.ops.length n.opC, .slice n.offA n.offs.length n.offC, .slice n.linA n.lins.length n.linC, .slice n.clsA n.clss.length n.clsC, .slice nxA nxL nxC, .slice A.iB h.items.length A.iC, .map (some A.nm), .map (some A.cm)] : Array Value)[i]? = some v) : W.cell? (aV A.hb i) = some v := (aA _ H.blk).trans hv
end
end Go.Proofs.YtpeaiphdkgifaaaGreatDoor
