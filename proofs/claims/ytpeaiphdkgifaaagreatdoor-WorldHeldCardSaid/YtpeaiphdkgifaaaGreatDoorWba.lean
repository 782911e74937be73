/-
  What really happens to items, in plain Lean: items, deeds, and how they go on. Items and their history in memory. The walks over an item's last and carried. What holds of items all the time, in plain Lean. timetable.Depart at every time. The walk over decide.
-/
import Derived.Test.YtpeaiphdkgifaaaGreatDoorWan
import Derived.Lib.ItoaNum
import Derived.Test.YtpeaiphdkgifaaaGreatDoorTimDep
import Derived.BigRegion
namespace Go.Proofs.YtpeaiphdkgifaaaGreatDoor
open Go.RowKit
set_option maxHeartbeats 20000000
set_option maxRecDepth 100000
structure Pst where
 label : List UInt8
 frm : Int
 dst : Int
 cls : Int
 acc : Int
structure Ded where
 kind : Int
 time : Int
 post : Pst
 label : List UInt8
 other : List UInt8
 line : Int
structure Itm where
 post : Pst
 stops : List St
 lost : Bool
 since : List Int
 labs : List (List UInt8)
 seals : List (List UInt8)
 holds : Nat
 line : Int
 leave : Int
def sealB (line time : Int) : List UInt8 := 67 :: (Lib.itoa line ++ 46 :: Lib.itoa time)
def carr (it : Itm) : List UInt8 := it.labs.getLastD []
def sinL (it : Itm) : Int := it.since.getLastD 0
def depT (n : Net) (l : Int) (t : Int) : Int × Int := departR (calAt n (linAt n l.toNat).frm.toNat) (linAt n l.toNat) t
def leaveF (n : Net) (l : Int) : Nat -> Int -> Option Int
 | 0, t => if (depT n l t).2 = 0 then some (depT n l t).1 else none
 | c + 1, t => if (depT n l t).2 = 0 then leaveF n l c ((depT n l t).1 + 1) else none
def fromT (n : Net) (it : Itm) : Int := max (readyR (offAt n (lastSt it.stops).office.toNat) (lastSt it.stops).arrive) (sinL it)
def decR (n : Net) (nx : List NsC) (canc : List Int) (dst : Int) (it : Itm) : Int × Int :=
 if it.lost = true ∨ (lastSt it.stops).office = dst then (-1, 0) else
 if nxAt nx (lastSt it.stops).office.toNat dst.toNat < 0 ∨ nxAt nx (lastSt it.stops).office.toNat dst.toNat ∈ canc then (-1, 0) else
 match leaveF n (nxAt nx (lastSt it.stops).office.toNat dst.toNat) it.holds (fromT n it) with
 | some v => (nxAt nx (lastSt it.stops).office.toNat dst.toNat, v)
 | none => (-1, 0)
def decideI (n : Net) (nx : List NsC) (canc : List Int) (dst : Int) (it : Itm) : Itm := { it with line := (decR n nx canc dst it).1, leave := (decR n nx canc dst it).2 }
def goneI (n : Net) (it : Itm) : Itm :=
 { it with stops := it.stops.dropLast ++ [{ lastSt it.stops with depart := it.leave, line := it.line }] ++ [⟨(linAt n it.line.toNat).to, it.leave + (linAt n it.line.toNat).travel, -1, -1⟩], seals := it.seals ++ [sealB it.line it.leave], holds := 0 }
def stepI (n : Net) (nx : List NsC) (canc : List Int) (dst : Int) (it : Itm) : Itm := decideI n nx canc dst (goneI n it)
def moveF (n : Net) (nx : List NsC) (canc : List Int) (dst before : Int) : Nat -> Itm -> Option Itm
 | 0, _ => none
 | f + 1, it => if 0 <= it.line /\ it.leave < before then if 20 <= it.stops.length then none else moveF n nx canc dst before f (stepI n nx canc dst it) else some it
def toLab (all : List Itm) (l : List UInt8) : Int := ((all.find? fun j => j.post.label == l).map (·.post.dst)).getD 0
def toOf (all : List Itm) (it : Itm) : Int := toLab all (carr it)
def procF (n : Net) (nx : List NsC) (canc : List Int) (before : Int) (all : List Itm) : List Itm -> Option (List Itm)
 | [] => some []
 | it :: l => match moveF n nx canc (toOf all it) before 21 it with
  | none => none
  | some x => (procF n nx canc before all l).map (x :: ·)
structure Hst where
 items : List Itm
 canc : List Int
def newI (p : Pst) : Itm := ⟨p, [⟨p.frm, p.acc, -1, -1⟩], false, [p.acc], [p.label], [], 0, -1, 0⟩
def holdI (n : Net) (it : Itm) : Itm :=
 if it.line < 0 then { it with holds := it.holds + 1 } else
 if (depT n it.line (it.leave + 1)).2 = 0 then { it with holds := it.holds + 1, leave := (depT n it.line (it.leave + 1)).1 } else { it with holds := it.holds + 1, line := -1, leave := 0 }
def relabI (it : Itm) (l : List UInt8) (t : Int) : Itm := { it with since := it.since ++ [t], labs := it.labs ++ [l] }
def findI (all : List Itm) (l : List UInt8) : Option Itm := all.find? fun j => j.post.label == l
def meetB (a b : Itm) (t : Int) : Bool := (lastSt a.stops).office == (lastSt b.stops).office && decide ((lastSt a.stops).arrive <= t) && decide ((lastSt b.stops).arrive <= t)
def swapI (n : Net) (nx : List NsC) (canc : List Int) (all : List Itm) (d : Ded) (a b i : Itm) : Itm :=
 if i.post.label == d.label then decideI n nx canc (toLab all (carr b)) (relabI i (carr b) d.time)
 else if i.post.label == d.other then decideI n nx canc (toLab all (carr a)) (relabI i (carr a) d.time) else i
def actR (n : Net) (nx : List NsC) (h : Hst) (d : Ded) : Hst :=
 if d.kind = 1 then { h with items := h.items ++ [decideI n nx h.canc d.post.dst (newI d.post)] }
 else if d.kind = 2 then { h with items := h.items.map fun i => if i.post.label == d.label then decideI n nx h.canc (toOf h.items i) { i with lost := true } else i }
 else if d.kind = 3 then { h with items := h.items.map fun i => if i.post.label == d.label then holdI n i else i }
 else if d.kind = 4 then
  match findI h.items d.label, findI h.items d.other with
  | some a, some b => if meetB a b d.time then { h with items := h.items.map (swapI n nx h.canc h.items d a b) } else h
  | _, _ => h
 else { items := h.items.map fun i => if i.line = d.line then { i with line := -1, leave := 0 } else i, canc := d.line :: h.canc }
def bigT : Int := 9223372036854775807
def runF (n : Net) (nx : List NsC) : List Ded -> Hst -> Option Hst
 | [], h => (procF n nx h.canc bigT h.items h.items).map fun l => { h with items := l }
 | d :: ds, h => match procF n nx h.canc d.time h.items h.items with
  | none => none
  | some l => runF n nx ds (actR n nx { h with items := l } d)
def runR (n : Net) (nx : List NsC) (ds : List Ded) : Option Hst := runF n nx ds ⟨[], []⟩
def labB (l : List UInt8) : Bool := l.all (fun c => (decide (65 <= c) && decide (c <= 90)) || (decide (48 <= c) && decide (c <= 57)) || c == 46) && decide (1 <= l.length) && decide (l.length <= 20)
def postedL (ds : List Ded) : List (List UInt8) := (ds.filter fun d => d.kind == 1).map fun d => d.post.label
def DedOk (n : Net) (before : List Ded) (d : Ded) : Prop :=
 (d.kind = 1 /\ labB d.post.label = true /\ d.post.label ∉ postedL before /\ (0 <= d.post.frm /\ d.post.frm < n.offs.length) /\ (0 <= d.post.dst /\ d.post.dst < n.offs.length) /\ (0 <= d.post.cls /\ d.post.cls < n.clss.length) /\ d.post.acc = d.time) ∨
 ((d.kind = 2 ∨ d.kind = 3) /\ d.label ∈ postedL before) ∨
 (d.kind = 4 /\ d.label ∈ postedL before /\ d.other ∈ postedL before /\ d.label ≠ d.other) ∨
 (d.kind = 5 /\ 0 <= d.line /\ d.line < n.lins.length)
def DedsOk (n : Net) : List Ded -> Int -> List Ded -> Prop
 | _, _, [] => True
 | before, t, d :: ds => t <= d.time /\ d.time <= 1000000 /\ DedOk n before d /\ DedsOk n (before ++ [d]) d.time ds
structure ItA where
 b : Nat
 sB : Nat
 sC : Nat
 nB : Nat
 nC : Nat
 lB : Nat
 lC : Nat
 eA : Option Addr
 eC : Nat
def ItA.blks (a : ItA) : List Nat := [a.b, a.sB, a.nB, a.lB] ++ (a.eA.map (·.block)).toList
abbrev itCells (it : Itm) (a : ItA) (lv : Int) : Array Value := #[sV it.post.label, iV it.post.frm, iV it.post.dst, iV it.post.cls, iV it.post.acc, .slice (some ⟨a.sB, 0, none⟩) it.stops.length a.sC, .bool it.lost, .slice (some ⟨a.nB, 0, none⟩) it.since.length a.nC, .slice (some ⟨a.lB, 0, none⟩) it.labs.length a.lC, .slice a.eA it.seals.length a.eC, iV it.holds, iV it.line, iV lv]
structure ItIn (base : Nat) (W : World) (it : Itm) (a : ItA) : Prop where
 cells : ∃ lv, I64 lv /\ (0 <= it.line -> lv = it.leave) /\ W.heap[a.b]? = some (.cells (itCells it a lv) 103 (0, 0))
 ge : base <= a.b
 st : W.ownsRow base 50 4 (.slice (some ⟨a.sB, 0, none⟩) it.stops.length a.sC) it.stops.length (it.stops.flatMap encSt)
 si : W.ownsRow base 3 1 (.slice (some ⟨a.nB, 0, none⟩) it.since.length a.nC) it.since.length (it.since.map iV)
 la : W.ownsRow base 9 1 (.slice (some ⟨a.lB, 0, none⟩) it.labs.length a.lC) it.labs.length (it.labs.map sV)
 se : W.ownsRow base 9 1 (.slice a.eA it.seals.length a.eC) it.seals.length (it.seals.map sV)
structure ChgS (S : List Nat) (W W' : World) : Prop where
 os : W'.os = W.os
 tape : W'.tape = W.tape
 output : W'.output = W.output
 size : W.heap.size <= W'.heap.size
 block : ∀ b, b < W.heap.size -> b ∉ S -> W'.heap[b]? = W.heap[b]?
theorem ChgS.refl (S : List Nat) (W : World) : ChgS S W W := ⟨rfl, rfl, rfl, Nat.le_refl _, fun _ _ _ => rfl⟩
theorem ChgS.trans {S T : List Nat} {A B C : World} (h : ChgS S A B) (k : ChgS T B C) (hT : ∀ b ∈ T, b ∈ S ∨ A.heap.size <= b) : ChgS S A C :=
 ⟨k.os.trans h.os, k.tape.trans h.tape, k.output.trans h.output, Nat.le_trans h.size k.size, fun b hb hs => (k.block b (Nat.lt_of_lt_of_le hb h.size) (fun ht => by
  rcases hT b ht with h1 | h1
  ·exact hs h1
  ·omega)).trans (h.block b hb hs)⟩
theorem ChgS.of_below {S : List Nat} {A B : World} (h : Below A.heap.size A B) : ChgS S A B := ⟨h.os, h.tape, h.output, h.size, fun b hb _ => h.block b hb⟩
theorem ChgS.of_grown {S : List Nat} {A B : World} {r : Option Nat} (h : A.grownBy B r) (hr : ∀ x, r = some x -> x ∈ S) : ChgS S A B := ⟨h.os, h.tape, h.output, h.size, fun b hb hs => h.block b hb (fun e => hs (hr b e.symm))⟩
theorem ChgS.mono {S T : List Nat} {A B : World} (h : ChgS S A B) (hs : ∀ b ∈ S, b ∈ T) : ChgS T A B := ⟨h.os, h.tape, h.output, h.size, fun b hb ht => h.block b hb (fun e => ht (hs b e))⟩
theorem ChgS.below {S : List Nat} {A B : World} {n : Nat} (h : ChgS S A B) (hn : n <= A.heap.size) (hs : ∀ b ∈ S, n <= b) : Below n A B := ⟨h.os, h.tape, h.output, h.size, fun b hb => h.block b (by omega) (fun e => by have := hs b e; omega)⟩
theorem own_chg {S : List Nat} {A B : World} {base : Nat} {e : TypeId} {s : Nat} {v : Value} {k : Nat} {xs : List Value} (h : A.ownsRow base e s v k xs) (hc : ChgS S A B) (hs : ∀ b, v.ownBlock = some b -> b ∉ S) : B.ownsRow base e s v k xs := by
 rcases h with ⟨h1, h2⟩
 refine ⟨h1, ?_⟩
 rcases h2 with h2 | ⟨g, cap, cur, rfl, hb, hg, r⟩
 ·exact .inl h2
 ·exact .inr ⟨g, cap, cur, rfl, hb, (hc.block g (block_lt hg) (hs g rfl)).trans hg, r⟩
theorem ItIn.chg {S : List Nat} {base : Nat} {A B : World} {it : Itm} {a : ItA} (h : ItIn base A it a) (hc : ChgS S A B) (hs : ∀ b ∈ a.blks, b ∉ S) : ItIn base B it a := by
 obtain ⟨lv, h1, h2, h3⟩ := h.cells
 refine ⟨⟨lv, h1, h2, (hc.block _ (block_lt h3) (hs _ (by simp [ItA.blks]))).trans h3⟩, h.ge, own_chg h.st hc ?_, own_chg h.si hc ?_, own_chg h.la hc ?_, own_chg h.se hc ?_⟩
 all_goals
  intro b hb
  refine hs b ?_
  unfold ItA.blks
 ·cases hb; simp
 ·cases hb; simp
 ·cases hb; simp
 ·cases he : a.eA with
  | none => rw [he] at hb; cases hb
  | some x => rw [he] at hb; cases hb; simp
theorem ItIn.below {base : Nat} {A B : World} {it : Itm} {a : ItA} (h : ItIn base A it a) (hb : Below A.heap.size A B) : ItIn base B it a := h.chg (S := []) (ChgS.of_below hb) (fun _ _ => by simp)
theorem own_lt {W : World} {base : Nat} {e : TypeId} {s : Nat} {v : Value} {k : Nat} {xs : List Value} (h : W.ownsRow base e s v k xs) {b : Nat} (hb : v.ownBlock = some b) : base <= b /\ b < W.heap.size := by
 rcases h.2 with ⟨rfl, -⟩ | ⟨g, cap, cur, rfl, hg, h2, -⟩
 ·cases hb
 ·cases hb
  exact ⟨hg, block_lt h2⟩
theorem ItIn.lt {base : Nat} {W : World} {it : Itm} {a : ItA} (h : ItIn base W it a) : ∀ b ∈ a.blks, base <= b /\ b < W.heap.size := by
 intro b hb
 unfold ItA.blks at hb
 simp only [List.mem_append, List.mem_cons, List.not_mem_nil, or_false, Option.mem_toList, Option.map_eq_some_iff] at hb
 rcases hb with (rfl | rfl | rfl | rfl) | ⟨x, hx, rfl⟩
 ·obtain ⟨lv, -, -, h3⟩ := h.cells
  exact ⟨h.ge, block_lt h3⟩
 ·exact own_lt h.st rfl
 ·exact own_lt h.si rfl
 ·exact own_lt h.la rfl
 ·exact own_lt h.se (by rw [hx]; rfl)
def namF (items : List Itm) (its : List ItA) (l : List UInt8) : Option Value := ((items.zip its).find? fun p => p.1.post.label == l).map fun p => .pointer (some ⟨p.2.b, 0, none⟩)
def cancF (canc : List Int) (x : Int) : Option Value := if x ∈ canc then some (.bool true) else none
structure HsA where
 hb : Nat
 nm : Nat
 cm : Nat
 iB : Option Addr
 iC : Nat
 its : List ItA
 ab : Nat
 av : Obj
 eb : Nat
 ev : Obj
def HsA.core (A : HsA) : Nat × Nat × Obj × Nat × Obj := (A.hb, A.ab, A.av, A.eb, A.ev)
def HsA.own (A : HsA) : List Nat := [A.hb, A.nm, A.cm, A.ab, A.eb] ++ (A.iB.map (·.block)).toList
def HsA.all (A : HsA) : List Nat := A.own ++ A.its.flatMap ItA.blks
structure HsIn (base : Nat) (W : World) (n : Net) (nxA : Option Addr) (nxL nxC : Nat) (h : Hst) (A : HsA) : Prop where
 blk : W.heap[A.hb]? = some (.cells #[.slice n.calA n.cals.length n.calC, .slice n.namA n.names.length n.namC, .slice n.opA n.ops.length n.opC, .slice n.offA n.offs.length n.offC, .slice n.linA n.lins.length n.linC, .slice n.clsA n.clss.length n.clsC, .slice nxA nxL nxC, .slice A.iB h.items.length A.iC, .map (some A.nm), .map (some A.cm)] 96 (0, 0))
 ge : base <= A.hb /\ base <= A.nm /\ base <= A.cm
 len : A.its.length = h.items.length
 row : W.ownsRow base 101 1 (.slice A.iB h.items.length A.iC) h.items.length (A.its.map fun a => .pointer (some ⟨a.b, 0, none⟩))
 nam : MapV Tryz.prog 9 W A.nm h.items.length (strF (namF h.items A.its))
 can : ∃ m, MapV Tryz.prog 3 W A.cm m (intF (cancF h.canc))
 act : base <= A.ab /\ W.heap[A.ab]? = some A.av
 act2 : base <= A.eb /\ W.heap[A.eb]? = some A.ev
 item : ∀ (i : Nat) (it : Itm) (a : ItA), h.items[i]? = some it -> A.its[i]? = some a -> ItIn base W it a
 nodup : A.all.Nodup
theorem HsIn.lt {base : Nat} {W : World} {n : Net} {nxA : Option Addr} {nxL nxC : Nat} {h : Hst} {A : HsA} (H : HsIn base W n nxA nxL nxC h A) : ∀ b ∈ A.all, base <= b /\ b < W.heap.size := by
 intro b hb
 unfold HsA.all HsA.own at hb
 simp only [List.mem_append, List.mem_cons, List.not_mem_nil, or_false, Option.mem_toList, Option.map_eq_some_iff, List.mem_flatMap] at hb
 rcases hb with ((rfl | rfl | rfl | rfl | rfl) | ⟨x, hx, rfl⟩) | ⟨a, ha, hb⟩
 ·exact ⟨H.ge.1, block_lt H.blk⟩
 ·exact ⟨H.ge.2.1, H.nam.lt⟩
 ·obtain ⟨m, hm⟩ := H.can
  exact ⟨H.ge.2.2, hm.lt⟩
 ·exact ⟨H.act.1, block_lt H.act.2⟩
 ·exact ⟨H.act2.1, block_lt H.act2.2⟩
 ·exact own_lt H.row (by rw [hx]; rfl)
 ·obtain ⟨i, hi⟩ := List.getElem?_of_mem ha
  obtain ⟨it, hit⟩ : ∃ it, h.items[i]? = some it := ⟨_, List.getElem?_eq_getElem (by have := (List.getElem?_eq_some_iff.1 hi).1; have := H.len; omega)⟩
  exact (H.item i it a hit hi).lt b hb
theorem HsIn.chg {S : List Nat} {base : Nat} {W W' : World} {n : Net} {nxA : Option Addr} {nxL nxC : Nat} {h : Hst} {A : HsA} (H : HsIn base W n nxA nxL nxC h A) (hc : ChgS S W W') (hs : ∀ b ∈ A.all, b ∉ S) : HsIn base W' n nxA nxL nxC h A := by
 have hown : ∀ b ∈ A.own, b ∉ S := fun b hb => hs b (List.mem_append_left _ hb)
 obtain ⟨m, hm⟩ := H.can
 refine ⟨(hc.block _ (block_lt H.blk) (hown _ (by simp [HsA.own]))).trans H.blk, H.ge, H.len, own_chg H.row hc (fun b hb => hown b ?_), H.nam.kept (hc.block _ H.nam.lt (hown _ (by simp [HsA.own]))), ⟨m, hm.kept (hc.block _ hm.lt (hown _ (by simp [HsA.own])))⟩, ⟨H.act.1, (hc.block _ (block_lt H.act.2) (hown _ (by simp [HsA.own]))).trans H.act.2⟩, ⟨H.act2.1, (hc.block _ (block_lt H.act2.2) (hown _ (by simp [HsA.own]))).trans H.act2.2⟩, fun i it a h1 h2 => (H.item i it a h1 h2).chg hc (fun b hb => hs b (List.mem_append_right _ (List.mem_flatMap.2 ⟨a, List.mem_of_getElem? h2, hb⟩))), H.nodup⟩
 cases he : A.iB with
 | none => rw [he] at hb; cases hb
 | some x => rw [he] at hb; cases hb; simp [HsA.own, he]
theorem HsIn.below {base : Nat} {W W' : World} {n : Net} {nxA : Option Addr} {nxL nxC : Nat} {h : Hst} {A : HsA} (H : HsIn base W n nxA nxL nxC h A) (hb : Below W.heap.size W W') : HsIn base W' n nxA nxL nxC h A := H.chg (S := []) (ChgS.of_below hb) (fun _ _ => by simp)
structure ItStep (base : Nat) (W W' : World) (a a' : ItA) (it' : Itm) : Prop where
 in_ : ItIn base W' it' a'
 chg : ChgS a.blks W W'
 new_ : ∀ b ∈ a'.blks, b ∈ a.blks ∨ W.heap.size <= b
 nodup : a'.blks.Nodup
 same : a'.b = a.b
theorem nodup_set {α : Type} {f : α -> List Nat} {l : List α} {k : Nat} {a a' : α} {P : List Nat} {sz : Nat} (hn : (P ++ l.flatMap f).Nodup) (hk : l[k]? = some a) (hlt : ∀ b ∈ P ++ l.flatMap f, b < sz) (hnew : ∀ b ∈ f a', b ∈ f a ∨ sz <= b) (hnd : (f a').Nodup) : (P ++ (l.set k a').flatMap f).Nodup := by
 have hkl := (List.getElem?_eq_some_iff.1 hk).1
 obtain ⟨s, t, rfl, hs⟩ : ∃ s t, l = s ++ a :: t /\ s.length = k := ⟨l.take k, l.drop (k + 1), by
  rw [<- (List.getElem?_eq_some_iff.1 hk).2, <- List.drop_eq_getElem_cons hkl, List.take_append_drop], by simp; omega⟩
 have e : (s ++ a :: t).set k a' = s ++ a' :: t := by rw [<- hs]; simp
 rw [e]
 simp only [List.flatMap_append, List.flatMap_cons] at hn hlt ⊢
 have hp : (P ++ (s.flatMap f ++ (f a ++ t.flatMap f))).Perm (f a ++ (P ++ (s.flatMap f ++ t.flatMap f))) := by
  rw [<- List.append_assoc, <- List.append_assoc P]
  refine List.Perm.trans ?_ (List.perm_append_comm_assoc _ _ _).symm
  exact List.Perm.refl _
 have hp' : (P ++ (s.flatMap f ++ (f a' ++ t.flatMap f))).Perm (f a' ++ (P ++ (s.flatMap f ++ t.flatMap f))) := by
  rw [<- List.append_assoc, <- List.append_assoc P]
  exact (List.perm_append_comm_assoc _ _ _).symm
 rw [hp'.nodup_iff]
 rw [hp.nodup_iff] at hn
 obtain ⟨n1, n2, n3⟩ := List.nodup_append.1 hn
 refine List.nodup_append.2 ⟨hnd, n2, fun x hx y hy e => ?_⟩
 subst e
 rcases hnew x hx with h | h
 ·exact n3 x h x hy rfl
 ·have := hlt x (hp.mem_iff.2 (List.mem_append_right _ hy))
  omega
theorem HsIn.upd {base : Nat} {W W' : World} {n : Net} {nxA : Option Addr} {nxL nxC : Nat} {h : Hst} {A : HsA} (H : HsIn base W n nxA nxL nxC h A) {k : Nat} {it it' : Itm} {a a' : ItA} (h1 : h.items[k]? = some it) (h2 : A.its[k]? = some a) (hs : ItStep base W W' a a' it') (hp : it'.post = it.post) :
  HsIn base W' n nxA nxL nxC { h with items := h.items.set k it' } { A with its := A.its.set k a' } := by
 have hmem : ∀ b ∈ a.blks, b ∈ A.its.flatMap ItA.blks := fun b hb => List.mem_flatMap.2 ⟨a, List.mem_of_getElem? h2, hb⟩
 have hown : ∀ b ∈ A.own, b ∉ a.blks := fun b hb hb2 => (List.nodup_append.1 H.nodup).2.2 b hb b (hmem b hb2) rfl
 have hoth : ∀ i x, i ≠ k -> A.its[i]? = some x -> ∀ b ∈ x.blks, b ∉ a.blks := fun i x hik hx b hb hb2 => by
  have hnd := (List.nodup_append.1 H.nodup).2.1
  obtain ⟨-, hpw⟩ := List.pairwise_flatMap.1 hnd
  rcases Nat.lt_or_gt_of_ne hik with hlt | hlt
  ·obtain ⟨g1, rfl⟩ := List.getElem?_eq_some_iff.1 hx
   obtain ⟨g2, rfl⟩ := List.getElem?_eq_some_iff.1 h2
   exact List.pairwise_iff_getElem.1 hpw i k g1 g2 hlt b hb b hb2 rfl
  ·obtain ⟨g1, rfl⟩ := List.getElem?_eq_some_iff.1 hx
   obtain ⟨g2, rfl⟩ := List.getElem?_eq_some_iff.1 h2
   exact List.pairwise_iff_getElem.1 hpw k i g2 g1 hlt b hb2 b hb rfl
 have hptr : (A.its.set k a').map (fun a => Value.pointer (some ⟨a.b, 0, none⟩)) = A.its.map fun a => Value.pointer (some ⟨a.b, 0, none⟩) := by
  apply List.ext_getElem?
  intro i
  rw [List.getElem?_map, List.getElem?_map, List.getElem?_set]
  by_cases hik : k = i
  ·subst hik
   rw [if_pos rfl, if_pos (List.getElem?_eq_some_iff.1 h2).1, h2]
   simp [hs.same]
  ·rw [if_neg hik]
 have hnam : namF (h.items.set k it') (A.its.set k a') = namF h.items A.its := by
  funext l
  unfold namF
  have hz : ∀ (xs : List Itm) (ys : List ItA) (j : Nat) (x : Itm) (y : ItA), xs[j]? = some x -> ys[j]? = some y -> x.post = it'.post -> a'.b = y.b -> (((xs.set j it').zip (ys.set j a')).find? fun p => p.1.post.label == l).map (fun p => Value.pointer (some ⟨p.2.b, 0, none⟩)) = ((xs.zip ys).find? fun p => p.1.post.label == l).map fun p => Value.pointer (some ⟨p.2.b, 0, none⟩) := by
   intro xs
   induction xs with
   | nil => intro ys j x y hx; simp at hx
   | cons z xs ih =>
    intro ys j x y hx hy hpo hb
    cases ys with
    | nil => simp at hy
    | cons w ys =>
     cases j with
     | zero =>
      simp at hx hy
      subst hx hy
      simp only [List.set_cons_zero, List.zip_cons_cons, List.find?_cons, <- hpo]
      split
      ·simp [hb]
      ·rfl
     | succ j =>
      simp only [List.set_cons_succ, List.zip_cons_cons, List.find?_cons]
      split
      ·rfl
      ·exact ih ys j x y hx hy hpo hb
  exact hz h.items A.its k it a h1 h2 hp.symm hs.same
 obtain ⟨m, hm⟩ := H.can
 refine ⟨?_, H.ge, by simp [H.len], ?_, ?_, ⟨m, hm.kept (hs.chg.block _ hm.lt (hown _ (by simp [HsA.own])))⟩, ⟨H.act.1, (hs.chg.block _ (block_lt H.act.2) (hown _ (by simp [HsA.own]))).trans H.act.2⟩, ⟨H.act2.1, (hs.chg.block _ (block_lt H.act2.2) (hown _ (by simp [HsA.own]))).trans H.act2.2⟩, fun i x y hx hy => ?_, ?_⟩
 ·have := (hs.chg.block _ (block_lt H.blk) (hown _ (by simp [HsA.own]))).trans H.blk
  simpa using this
 ·have := own_chg H.row hs.chg (fun b hb => hown b (by
   cases he : A.iB with
   | none => rw [he] at hb; cases hb
   | some x => rw [he] at hb; cases hb; simp [HsA.own, he]))
  simp only [List.length_set]
  rw [hptr]
  exact this
 ·have := H.nam.kept (hs.chg.block _ H.nam.lt (hown _ (by simp [HsA.own])))
  simp only [List.length_set]
  rw [hnam]
  exact this
 ·simp only at hx hy
  rw [List.getElem?_set] at hx hy
  by_cases hik : k = i
  ·subst hik
   rw [if_pos rfl, if_pos (List.getElem?_eq_some_iff.1 h1).1] at hx
   rw [if_pos rfl, if_pos (List.getElem?_eq_some_iff.1 h2).1] at hy
   cases hx
   cases hy
   exact hs.in_
  ·rw [if_neg hik] at hx hy
   exact (H.item i x y hx hy).chg hs.chg (hoth i y (fun e => hik e.symm) hy)
 ·exact nodup_set (P := A.own) H.nodup h2 (fun b hb => (H.lt b hb).2) hs.new_ hs.nodup
theorem ItIn.cell {base : Nat} {W : World} {it : Itm} {a : ItA} (h : ItIn base W it a) : ∃ lv, I64 lv /\ (0 <= it.line -> lv = it.leave) /\ ∀ i v, (itCells it a lv)[i]? = some v -> W.cell? ⟨a.b, i, none⟩ = some v := by
 obtain ⟨lv, h1, h2, h3⟩ := h.cells
 exact ⟨lv, h1, h2, fun i v hv => (cell_of_row _ _ _ _ _ _ h3).trans hv⟩
theorem last_any (base : Nat) (it : Itm) (a : ItA) (w : World) (h : ItIn base w it a) (h1 : 1 <= it.stops.length) (h2 : it.stops.length <= 100) :
  Calls Tryz.prog 100 #[.pointer (some ⟨a.b, 0, none⟩)] w fun e w' => e = .returned (.pointer (some ⟨a.sB, (it.stops.length - 1) * 4, none⟩)) /\ Below w.heap.size w w' := by
 obtain ⟨lv, -, -, hc⟩ := h.cell
 have c5 : w.cell? ⟨a.b, 5, none⟩ = some (.slice (some ⟨a.sB, 0, none⟩) it.stops.length a.sC) := hc 5 _ rfl
 clear h hc
 have e0 : (0 : Int) <= (it.stops.length : Int) - 1 := by omega
 have e1 : (it.stops.length : Int) - 1 < (it.stops.length : Int) := by omega
 have e2 : IntKind.i64.wrap ((it.stops.length : Int) - 1) = (it.stops.length : Int) - 1 := IntWalk.i64_in _ (by omega)
 have e3 : ((it.stops.length : Int) - 1).toNat = it.stops.length - 1 := by omega
 go_enter Tryz.func100, Tryz.ntmps100
 go_upto_region 1 with fail
 go_quiet (fail)
 go_wp2
 go_ret
 exact ⟨rfl, below_drewN (Below.refl _ _) nq⟩
theorem carried_any (base : Nat) (it : Itm) (a : ItA) (w : World) (h : ItIn base w it a) (h1 : it.labs ≠ []) (h2 : it.labs.length <= 100000) :
  Calls Tryz.prog 146 #[.pointer (some ⟨a.b, 0, none⟩)] w fun e w' => e = .returned (sV (carr it)) /\ Below w.heap.size w w' := by
 obtain ⟨lv, -, -, hc⟩ := h.cell
 have c8 : w.cell? ⟨a.b, 8, none⟩ = some (.slice (some ⟨a.lB, 0, none⟩) it.labs.length a.lC) := hc 8 _ rfl
 have hp := List.length_pos_iff.2 h1
 have hl : it.labs[it.labs.length - 1]? = some (carr it) := by
  unfold carr
  rw [List.getLastD_eq_getLast?, List.getLast?_eq_getElem?, List.getElem?_eq_getElem (by omega)]
  rfl
 obtain ⟨b, off, hA, -, hcc⟩ := (rd_own h.la).get (i := it.labs.length - 1) (by simpa using by omega)
 cases hA
 have c9 : w.cell? ⟨a.lB, it.labs.length - 1, none⟩ = some (sV (carr it)) := by
  have := hcc (it.labs.length - 1) (sV (carr it)) (by rw [List.getElem?_map, hl]; rfl)
  rwa [Nat.zero_add] at this
 clear h hc hcc hl
 generalize carr it = x at *
 generalize it.labs.length = L at *
 have e0 : (0 : Int) <= (L : Int) - 1 := by omega
 have e1 : (L : Int) - 1 < (L : Int) := by omega
 have e2 : IntKind.i64.wrap ((L : Int) - 1) = (L : Int) - 1 := IntWalk.i64_in _ (by omega)
 have e3 : ((L : Int) - 1).toNat = L - 1 := by omega
 go_enter Tryz.func146, Tryz.ntmps146
 go_upto_region 1 with fail
 go_quiet (fail)
 go_wp2
 go_ret
 exact ⟨rfl, below_drewN (Below.refl _ _) nq⟩
structure Hop (n : Net) (a b : St) (e : List UInt8) : Prop where
 line : 0 <= a.line /\ a.line < n.lins.length
 frm : (linAt n a.line.toNat).frm = a.office
 ready : readyR (offAt n a.office.toNat) a.arrive <= a.depart
 dep : 0 <= a.depart /\ a.depart <= 2090000
 off : b.office = (linAt n a.line.toNat).to
 arr : b.arrive = a.depart + (linAt n a.line.toNat).travel
 seal_ : e = sealB a.line a.depart
 fix : a.depart <= 2000000 -> depT n a.line a.depart = (a.depart, 0)
def PathOk (n : Net) : List St -> List (List UInt8) -> Prop
 | [s], [] => s.depart = -1 /\ s.line = -1
 | a :: b :: l, e :: es => Hop n a b e /\ PathOk n (b :: l) es
 | _, _ => False
theorem lastSt_snoc (l : List St) (s : St) : lastSt (l ++ [s]) = s := by simp [lastSt]
theorem snoc_of {l : List St} (h : l ≠ []) : l = l.dropLast ++ [lastSt l] := by
 unfold lastSt
 rw [List.getLastD_eq_getLast?, List.getLast?_eq_some_getLast h]
 simp [List.dropLast_concat_getLast]
theorem path_ne {n : Net} {l : List St} {es : List (List UInt8)} (h : PathOk n l es) : l ≠ [] := by
 rintro rfl
 exact h
theorem path_len {n : Net} : ∀ {l : List St} {es : List (List UInt8)}, PathOk n l es -> es.length + 1 = l.length
 | [_], [], _ => rfl
 | _ :: b :: l, _ :: es, h => by
  have := path_len h.2
  simp at this ⊢
  omega
theorem path_snoc {n : Net} {s s' u : St} {e : List UInt8} (ho : s'.office = s.office) (ha : s'.arrive = s.arrive) (hh : Hop n s' u e) (hu : u.depart = -1 /\ u.line = -1) : ∀ {l : List St} {es : List (List UInt8)}, PathOk n (l ++ [s]) es -> PathOk n (l ++ [s'] ++ [u]) (es ++ [e])
 | [], [], _ => ⟨hh, hu⟩
 | [], _ :: _, h => by simp [PathOk] at h
 | [a], [], h => by simp [PathOk] at h
 | [a], [e1], h => by
  obtain ⟨h1, h2⟩ := h
  exact ⟨⟨h1.line, h1.frm, h1.ready, h1.dep, ho.trans h1.off, ha.trans h1.arr, h1.seal_, h1.fix⟩, hh, hu⟩
 | [a], e1 :: e2 :: es, h => by simp [PathOk] at h
 | a :: b :: l, [], h => by simp [PathOk] at h
 | a :: b :: l, e1 :: es, h => ⟨h.1, path_snoc ho ha hh hu (l := b :: l) h.2⟩
structure ItOk (n : Net) (it : Itm) : Prop where
 path : PathOk n it.stops it.seals
 head : ∃ s l, it.stops = s :: l /\ s.office = it.post.frm /\ s.arrive = it.post.acc
 len : it.stops.length <= 20
 offs : ∀ s ∈ it.stops, 0 <= s.office /\ s.office < n.offs.length /\ 0 <= s.arrive /\ s.arrive <= 2100000
 labs : it.since.length = it.labs.length /\ it.labs ≠ []
 sin : ∀ t ∈ it.since, 0 <= t /\ t <= 1000000
def DecOk (n : Net) (nx : List NsC) (canc : List Int) (dst : Int) (it : Itm) : Prop := it.line = (decR n nx canc dst it).1 /\ it.leave = (decR n nx canc dst it).2
theorem decide_ok (n : Net) (nx : List NsC) (canc : List Int) (dst : Int) (it : Itm) : DecOk n nx canc dst (decideI n nx canc dst it) := ⟨rfl, rfl⟩
theorem depT_ok {n : Net} {l t v : Int} (hG : Good n) (h1 : 0 <= l) (h2 : l < n.lins.length) (h : depT n l t = (v, 0)) : t <= v /\ v <= t + 90000 /\ 0 <= t /\ t <= 2000000 /\ (v <= 2000000 -> depT n l v = (v, 0)) := by
 have hL := hG.lin _ (List.mem_of_getElem? (linAt_get (n := n) (l := l.toNat) (by omega)))
 unfold depT departR at h ⊢
 by_cases ht : tOk t = true
 ·rw [if_pos ht] at h
  have h3 := firstR_in hL.2.2.1 hL.2.2.2.1 h
  have h4 : 0 <= t /\ t <= 2000000 := by unfold tOk at ht; simpa using ht
  refine ⟨h3.1, h3.2, h4.1, h4.2, fun hv => ?_⟩
  rw [if_pos (by unfold tOk; simp; omega)]
  exact firstR_mid hL.2.2.1 hL.2.2.2.1 h3.1 (Int.le_refl _) h
 ·rw [if_neg ht] at h
  cases congrArg Prod.snd h
theorem leaveF_ok {n : Net} {l : Int} (hG : Good n) (h1 : 0 <= l) (h2 : l < n.lins.length) : ∀ {c : Nat} {t v : Int}, leaveF n l c t = some v -> t <= v /\ v <= 2090000 /\ 0 <= v /\ (v <= 2000000 -> depT n l v = (v, 0))
 | 0, t, v, h => by
  unfold leaveF at h
  split at h
  ·rename_i g
   cases h
   obtain ⟨a1, a2, a3, a4, a5⟩ := depT_ok (v := (depT n l t).1) (t := t) hG h1 h2 (by rw [<- g])
   exact ⟨a1, by omega, by omega, a5⟩
  ·cases h
 | c + 1, t, v, h => by
  unfold leaveF at h
  split at h
  ·rename_i g
   obtain ⟨a1, a2, a3, a4, a5⟩ := depT_ok (v := (depT n l t).1) (t := t) hG h1 h2 (by rw [<- g])
   obtain ⟨b1, b2, b3, b4⟩ := leaveF_ok hG h1 h2 h
   exact ⟨by omega, b2, b3, b4⟩
  ·cases h
theorem leaveF_succ (n : Net) (l : Int) : ∀ (c : Nat) (t : Int), leaveF n l (c + 1) t = match leaveF n l c t with | some v => if (depT n l (v + 1)).2 = 0 then some (depT n l (v + 1)).1 else none | none => none
 | 0, t => by
  rw [leaveF]
  by_cases h : (depT n l t).2 = 0
  ·simp [h, leaveF]
  ·simp [h, leaveF]
 | c + 1, t => by
  rw [leaveF]
  by_cases h : (depT n l t).2 = 0
  ·rw [if_pos h, leaveF_succ n l c]
   conv => rhs; rw [leaveF, if_pos h]
  ·rw [if_neg h]
   conv => rhs; rw [leaveF, if_neg h]
structure GoesBy (n : Net) (nx : List NsC) (canc : List Int) (dst : Int) (it : Itm) (l v : Int) : Prop where
 lost : it.lost = false
 away : (lastSt it.stops).office ≠ dst
 nx_ : nxAt nx (lastSt it.stops).office.toNat dst.toNat = l
 nc : l ∉ canc
 ge : 0 <= l
 at_ : leaveF n l it.holds (fromT n it) = some v
theorem decR_cases (n : Net) (nx : List NsC) (canc : List Int) (dst : Int) (it : Itm) : (decR n nx canc dst it = (-1, 0)) ∨ ∃ l v, decR n nx canc dst it = (l, v) /\ GoesBy n nx canc dst it l v := by
 unfold decR
 split
 ·exact .inl rfl
 ·rename_i h1
  split
  ·exact .inl rfl
  ·rename_i h2
   split
   ·rename_i v hv
    refine .inr ⟨_, _, rfl, ?_, ?_, rfl, ?_, ?_, hv⟩
    ·cases hl : it.lost
     ·rfl
     ·exact absurd (.inl hl) h1
    ·exact fun e => h1 (.inr e)
    ·exact fun e => h2 (.inr e)
    ·have : ¬ nxAt nx (lastSt it.stops).office.toNat dst.toNat < 0 := fun e => h2 (.inl e)
     omega
   ·exact .inl rfl
theorem decR_of {n : Net} {nx : List NsC} {canc : List Int} {dst : Int} {it : Itm} {l v : Int} (h : GoesBy n nx canc dst it l v) : decR n nx canc dst it = (l, v) := by
 unfold decR
 rw [if_neg (by rw [h.lost]; intro e; rcases e with e | e; exact absurd e (by decide); exact h.away e), h.nx_, if_neg (by intro e; rcases e with e | e; exact absurd h.ge (by omega); exact h.nc e), h.at_]
theorem DecOk.goes {n : Net} {nx : List NsC} {canc : List Int} {dst : Int} {it : Itm} (h : DecOk n nx canc dst it) (hl : 0 <= it.line) : GoesBy n nx canc dst it it.line it.leave := by
 rcases decR_cases n nx canc dst it with e | ⟨l, v, e, g⟩
 ·have := h.1
  rw [e] at this
  rw [this] at hl
  exact absurd hl (by decide)
 ·have h1 := h.1
  have h2 := h.2
  rw [e] at h1 h2
  rw [h1, h2]
  exact g
theorem nxAt_line {n : Net} {nx : List NsC} (hF : Formed n nx) {o d : Nat} (ho : o < n.offs.length) (hd : d < n.offs.length) : nxAt nx o d = -1 ∨ 0 <= nxAt nx o d /\ nxAt nx o d < n.lins.length /\ (linAt n (nxAt nx o d).toNat).frm = o := by
 obtain ⟨r, h1, h2, h3⟩ := hF.2 o ho
 have e : nxAt nx o d = r.ns.getD d (-1) := by
  unfold nxAt
  congr 1
  rw [List.getD_eq_getElem?_getD, List.getElem?_map, h1]
  rfl
 rw [e, List.getD_eq_getElem?_getD, List.getElem?_eq_getElem (by omega)]
 exact h3 _ (List.getElem_mem ..)
theorem goes_hop {n : Net} {nx : List NsC} {canc : List Int} {dst : Int} {it : Itm} (hG : Good n) (hF : Formed n nx) (hi : ItOk n it) (hd : 0 <= dst /\ dst < n.offs.length) (h : DecOk n nx canc dst it) (hl : 0 <= it.line) :
  it.line < n.lins.length /\ (linAt n it.line.toNat).frm = (lastSt it.stops).office /\ fromT n it <= it.leave /\ 0 <= it.leave /\ it.leave <= 2090000 /\ (it.leave <= 2000000 -> depT n it.line it.leave = (it.leave, 0)) := by
 have g := h.goes hl
 have ho := hi.offs (lastSt it.stops) (by rw [snoc_of (path_ne hi.path)]; simp [lastSt_snoc])
 have h1 := nxAt_line hF (o := (lastSt it.stops).office.toNat) (d := dst.toNat) (by omega) (by omega)
 rw [g.nx_] at h1
 rcases h1 with e | ⟨-, e2, e3⟩
 ·omega
 ·obtain ⟨a1, a2, a3, a4⟩ := leaveF_ok hG hl e2 g.at_
  exact ⟨e2, by rw [e3]; omega, a1, a3, a2, a4⟩
theorem goneI_ok {n : Net} {nx : List NsC} {canc : List Int} {dst : Int} {it : Itm} (hG : Good n) (hF : Formed n nx) (hi : ItOk n it) (hd : 0 <= dst /\ dst < n.offs.length) (h : DecOk n nx canc dst it) (hl : 0 <= it.line) (h20 : it.stops.length < 20) : ItOk n (goneI n it) := by
 obtain ⟨a1, a2, a3, a4, a5, a6⟩ := goes_hop hG hF hi hd h hl
 have hne := path_ne hi.path
 have hs := snoc_of hne
 have ho := hi.offs (lastSt it.stops) (by rw [hs]; simp [lastSt_snoc])
 have hL := hG.lin _ (List.mem_of_getElem? (linAt_get (n := n) (l := it.line.toNat) (by omega)))
 have hlen : it.stops.length = it.stops.dropLast.length + 1 := by rw [List.length_dropLast]; have := List.length_pos_iff.2 hne; omega
 refine ⟨?_, ?_, ?_, ?_, hi.labs, hi.sin⟩
 ·have hp := hi.path
  rw [hs] at hp
  refine path_snoc (s := lastSt it.stops) (s' := { lastSt it.stops with depart := it.leave, line := it.line }) (u := ⟨(linAt n it.line.toNat).to, it.leave + (linAt n it.line.toNat).travel, -1, -1⟩) (e := sealB it.line it.leave) rfl rfl ⟨⟨hl, a1⟩, a2, ?_, ⟨a4, a5⟩, rfl, rfl, rfl, a6⟩ ⟨rfl, rfl⟩ hp
  show readyR _ _ <= it.leave
  unfold fromT at a3
  exact Int.le_trans (Int.le_max_left _ _) a3
 ·obtain ⟨s, l, e1, e2, e3⟩ := hi.head
  unfold goneI
  cases l with
  | nil => exact ⟨{ s with depart := it.leave, line := it.line }, _, by rw [e1]; rfl, e2, e3⟩
  | cons u l => exact ⟨s, _, by rw [e1]; rfl, e2, e3⟩
 ·show (it.stops.dropLast ++ [_] ++ [_]).length <= 20
  simp only [List.length_append, List.length_cons, List.length_nil]
  omega
 ·intro s hm
  rcases List.mem_append.1 hm with hm | hm
  ·rcases List.mem_append.1 hm with hm | hm
   ·exact hi.offs s ((List.dropLast_sublist _).subset hm)
   ·rw [List.mem_singleton.1 hm]
    exact ho
  ·rw [List.mem_singleton.1 hm]
   refine ⟨hL.2.1.1, hL.2.1.2, ?_, ?_⟩
   ·show 0 <= it.leave + _
    omega
   ·show it.leave + _ <= 2100000
    omega
theorem usable_no (n : Net) (l B : Nat) (t : Int) (w : World) (hn : NetIn w n) (hl : l < n.lins.length) (ht : t < 0 ∨ 2000000 < t) (hB : w.cell? ⟨B, 0, none⟩ = some (iV t)) :
  Calls Tryz.prog 44 #[netV n, iV l, .slice (some ⟨B, 0, none⟩) 1 1] w fun e w' => e = .returned (.bool false) /\ Below w.heap.size w w' := by
 have hb0 := ba w (netO n)
 have hx0 := heap_alloc_new w (netO n)
 have hll := hn.lens.2.2.2.2.1
 unfold maxLen at hll
 have HNP : Hid (NetP (w.alloc (netO n)) w.heap.size n) := ⟨fun i v hv => (cell_of_row _ _ _ _ _ _ hx0).trans hv, hn.below hb0⟩
 have HB0 := Lib.hid hb0
 have b0 := (hb0.cell (p := ⟨B, 0, none⟩) (World.block_lt_of_cell? w _ hB)).trans hB
 have n4 : (w.alloc (netO n)).cell? ⟨w.heap.size, 4, none⟩ = some (.slice n.linA n.lins.length n.linC) := HNP.out.box 4 _ rfl
 have j1 : ¬ (l : Int) < 0 := by omega
 have j2 : ¬ (n.lins.length : Int) <= (l : Int) := by omega
 have HT := Lib.hid ht
 clear hn hb0 hx0 hB ht
 go_enter Tryz.func44, Tryz.ntmps44
 go_upto_region 1 with fail
 change Code.wp _ _ _ _ (w.alloc (netO n))
 generalize (w.alloc (netO n)) = W at *
 generalize hX : w.heap.size = X at *
 have HX := Lib.hid hX; clear hX
 go_wp2_with fail
 go_loop [20] (fun i => i = iV 0) (fun i => 1 - (intOf i).toNat)
 case atStart => rfl
 case round =>
 subst hrel
 rcases HT.out with ht | ht
 ·go_wp2_with fail
  go_ret
  exact ⟨rfl, by have h := HB0.out; rw [<- HX.out] at h; exact h⟩
 ·have t1 : ¬ t < 0 := by omega
  go_wp2_with fail
  go_ret
  exact ⟨rfl, by have h := HB0.out; rw [<- HX.out] at h; exact h⟩
theorem tdepart_no (n : Net) (l : Nat) (t : Int) (w : World) (hn : NetIn w n) (hl : l < n.lins.length) (ht : t < 0 ∨ 2000000 < t) :
  Calls Tryz.prog 15 #[netV n, iV l, iV t] w fun e w' => e = .returned (.tuple #[iV 0, iV 1]) /\ Below w.heap.size w w' := by
 have hx0 := heap_alloc_new w (netO n)
 have hb0 := ba w (netO n)
 have HNP : Hid (NetP (w.alloc (netO n)) w.heap.size n) := ⟨fun i v hv => (cell_of_row _ _ _ _ _ _ hx0).trans hv, hn.below hb0⟩
 have HB0 := Lib.hid hb0
 have HT := Lib.hid ht
 have n0 : (w.alloc (netO n)).cell? ⟨w.heap.size, 0, none⟩ = some (.slice n.calA n.cals.length n.calC) := HNP.out.box 0 _ rfl
 have n1 : (w.alloc (netO n)).cell? ⟨w.heap.size, 1, none⟩ = some (.slice n.namA n.names.length n.namC) := HNP.out.box 1 _ rfl
 have n2 : (w.alloc (netO n)).cell? ⟨w.heap.size, 2, none⟩ = some (.slice n.opA n.ops.length n.opC) := HNP.out.box 2 _ rfl
 have n3 : (w.alloc (netO n)).cell? ⟨w.heap.size, 3, none⟩ = some (.slice n.offA n.offs.length n.offC) := HNP.out.box 3 _ rfl
 have n4 : (w.alloc (netO n)).cell? ⟨w.heap.size, 4, none⟩ = some (.slice n.linA n.lins.length n.linC) := HNP.out.box 4 _ rfl
 have n5 : (w.alloc (netO n)).cell? ⟨w.heap.size, 5, none⟩ = some (.slice n.clsA n.clss.length n.clsC) := HNP.out.box 5 _ rfl
 clear hn hx0 hb0 ht
 go_enter Tryz.func15, Tryz.ntmps15
 go_upto_region 1 with fail
 change Code.wp _ _ _ _ (w.alloc (netO n))
 generalize (w.alloc (netO n)) = W at *
 generalize hX : w.heap.size = X at *
 have HX := Lib.hid hX; clear hX
 go_wp2_with fail
 have hx1 := heap_alloc_new W (.cells #[iV t] 3)
 have hb1 := ba W (.cells #[iV t] 3)
 refine (usable_no n l W.heap.size t _ (HNP.out.net.below hb1) hl HT.out (cell_of_row _ _ 0 _ _ _ hx1)).mono ?_
 rintro e w1 ⟨rfl, hb⟩
 have HB1 := Lib.hid (bt hb1 hb)
 clear hb hb1 hx1 n0 n1 n2 n3 n4 n5
 go_wp2_with fail
 go_ret2
 exact ⟨rfl, by have h := HB0.out; rw [<- HX.out] at h; exact bt h HB1.out⟩
theorem tdep_any (n : Net) (l t : Int) (w : World) (hn : NetIn w n) (hk : KW w) (hs : Sound n) (h0 : 0 <= l) (h1 : l < n.lins.length) :
  Calls Tryz.prog 15 #[netV n, iV l, iV t] w fun e w' => e = .returned (.tuple #[iV (depT n l t).1, iV (depT n l t).2]) /\ Below w.heap.size w w' := by
 obtain ⟨k, rfl⟩ : ∃ k : Nat, l = (k : Int) := ⟨l.toNat, by omega⟩
 have hG := hs.1.good
 have hk1 : k < n.lins.length := by omega
 have hL := hG.lin _ (List.mem_of_getElem? (linAt_get hk1))
 by_cases ht : tOk t = true
 ·obtain ⟨ci, c1, c2, c3⟩ := hG.calAt (o := (linAt n k).frm.toNat) (by omega)
  exact tdepart_any n k (linAt n k).frm.toNat ci (linAt n k) (offAt n (linAt n k).frm.toNat) (calAt n (linAt n k).frm.toNat) t w hn hk hs (linAt_get hk1) (by omega) (offAt_get (by omega)) c1 c2 c3 hL.2.2.1 hL.2.2.2.1 ht
 ·have e : depT n (k : Int) t = (0, 1) := by
   unfold depT departR
   rw [if_neg ht]
  rw [e]
  refine tdepart_no n k t w hn hk1 ?_
  unfold tOk at ht
  simp at ht
  omega
section
open Go.Maps (Keyed)
theorem keyS : Keyed Tryz.prog 9 := Maps.string_keyed Tryz.underlying9
theorem keyI : Keyed Tryz.prog 3 := Maps.int_keyed Tryz.underlying3
theorem zeroPtr (w : World) : (zeroValue 101).run Tryz.prog w = .ok (.pointer none) w := by kernel_rfl
theorem zeroBool (w : World) : (zeroValue 4).run Tryz.prog w = .ok (.bool false) w := by kernel_rfl
theorem key_str (l : List UInt8) (h : l.length <= maxLen) : keyOf Tryz.prog 9 (sV l) = some (.string l) := by
 have := WideMaps.keyOf_string_mk Tryz.underlying9 (s := ⟨l.toArray⟩) (by show l.toArray.size <= maxLen; simpa using h)
 simpa using this
theorem key_int (x : Int) (h : I64 x) : keyOf Tryz.prog 3 (iV x) = some (.int .i64 x) := Maps.keyOf_int_mk Tryz.underlying3 (WalkArith.wf_i64 h)
theorem namF_at : ∀ (items : List Itm) (its : List ItA) (l : List UInt8), its.length = items.length -> (∃ i ∈ items, i.post.label = l) -> ∃ (j : Nat) (x : Itm) (y : ItA), items[j]? = some x /\ its[j]? = some y /\ x.post.label = l /\ namF items its l = some (.pointer (some ⟨y.b, 0, none⟩)) /\ findI items l = some x
 | [], _, l, _, h => by obtain ⟨i, hi, -⟩ := h; cases hi
 | x :: items, [], l, h, _ => by simp at h
 | x :: items, y :: its, l, h, hm => by
  unfold namF findI
  by_cases hx : x.post.label = l
  ·exact ⟨0, x, y, rfl, rfl, hx, by simp [hx], by simp [hx]⟩
  ·obtain ⟨j, x', y', a1, a2, a3, a4, a5⟩ := namF_at items its l (by simpa using h) (by
    obtain ⟨i, hi, e⟩ := hm
    rcases List.mem_cons.1 hi with rfl | hi
    ·exact absurd e hx
    ·exact ⟨i, hi, e⟩)
   refine ⟨j + 1, x', y', a1, a2, a3, ?_, ?_⟩
   ·unfold namF at a4
    simp [hx, a4]
   ·unfold findI at a5
    simp [hx, a5]
theorem toLab_find {items : List Itm} {l : List UInt8} {x : Itm} (h : findI items l = some x) : toLab items l = x.post.dst := by
 unfold toLab
 unfold findI at h
 rw [h]
 rfl
theorem ItIn.store {base : Nat} {W : World} {it it' : Itm} {a : ItA} {lv lv' : Int} {i : Nat} {v : Value} (h : ItIn base W it a) (hc : W.heap[a.b]? = some (.cells (itCells it a lv) 103 (0, 0))) (hnd : a.blks.Nodup) (he : (itCells it a lv).setIfInBounds i v = itCells it' a lv')
  (e1 : it'.stops = it.stops) (e2 : it'.since = it.since) (e3 : it'.labs = it.labs) (e4 : it'.seals = it.seals) (hl : I64 lv' /\ (0 <= it'.line -> lv' = it'.leave)) : ItIn base (W.setCell ⟨a.b, i, none⟩ v) it' a := by
 have hg : ChgS [a.b] W (W.setCell ⟨a.b, i, none⟩ v) := ⟨rfl, rfl, rfl, by simp, fun b _ hb => Below.heap_setCell _ _ _ _ (by show b ≠ a.b; simpa using hb)⟩
 have hn : ∀ b ∈ [a.sB, a.nB, a.lB] ++ (a.eA.map (·.block)).toList, b ∉ [a.b] := fun b hb hb2 => by
  rw [List.mem_singleton.1 hb2] at hb
  have hnd' : (a.b :: ([a.sB, a.nB, a.lB] ++ (a.eA.map (·.block)).toList)).Nodup := hnd
  exact (List.nodup_cons.1 hnd').1 hb
 have hr := row_set hc i v
 rw [he] at hr
 refine ⟨⟨lv', hl.1, hl.2, hr⟩, h.ge, ?_, ?_, ?_, ?_⟩
 ·rw [e1]
  exact own_chg h.st hg (fun b hb => hn b (by cases hb; simp))
 ·rw [e2]
  exact own_chg h.si hg (fun b hb => hn b (by cases hb; simp))
 ·rw [e3]
  exact own_chg h.la hg (fun b hb => hn b (by cases hb; simp))
 ·rw [e4]
  refine own_chg h.se hg (fun b hb => hn b ?_)
  cases hx : a.eA with
  | none => rw [hx] at hb; cases hb
  | some x => rw [hx] at hb; cases hb; simp
theorem chg_set {W : World} {b : Nat} (i : Nat) (v : Value) (S : List Nat) (h : b ∈ S) : ChgS S W (W.setCell ⟨b, i, none⟩ v) := ⟨rfl, rfl, rfl, by simp, fun c _ hc => Below.heap_setCell _ _ _ _ (by show c ≠ b; intro e; exact hc (e ▸ h))⟩
theorem set_same {α : Type} {l : List α} {k : Nat} {a : α} (h : l[k]? = some a) : l.set k a = l := by
 apply List.ext_getElem?
 intro i
 rw [List.getElem?_set]
 by_cases hik : k = i
 ·subst hik
  rw [if_pos rfl, if_pos (List.getElem?_eq_some_iff.1 h).1, h]
 ·rw [if_neg hik]
theorem HsIn.blks {base : Nat} {W : World} {n : Net} {nxA : Option Addr} {nxL nxC : Nat} {h : Hst} {A : HsA} (H : HsIn base W n nxA nxL nxC h A) {k : Nat} {a : ItA} (h2 : A.its[k]? = some a) : a.blks.Nodup /\ (∀ b ∈ a.blks, base <= b /\ b < W.heap.size) /\ ∀ b ∈ A.own, b ∉ a.blks := by
 have hm : ∀ b ∈ a.blks, b ∈ A.its.flatMap ItA.blks := fun b hb => List.mem_flatMap.2 ⟨a, List.mem_of_getElem? h2, hb⟩
 obtain ⟨n1, n2, n3⟩ := List.nodup_append.1 H.nodup
 exact ⟨(List.pairwise_flatMap.1 n2).1 a (List.mem_of_getElem? h2), fun b hb => H.lt b (List.mem_append_right _ (hm b hb)), fun b hb hb2 => n3 b hb b (hm b hb2) rfl⟩
structure WdH (w W : World) (n : Net) (nx : List NsC) (nxA : Option Addr) (nxC : Nat) (h : Hst) (A : HsA) : Prop where
 old : NetIn w n /\ Tab w nxA nx /\ KW w
 hs : HsIn w.heap.size W n nxA nx.length nxC h A
 bel : Below w.heap.size w W
theorem WdH.net {w W : World} {n : Net} {nx : List NsC} {nxA : Option Addr} {nxC : Nat} {h : Hst} {A : HsA} (H : WdH w W n nx nxA nxC h A) : NetIn W n := H.old.1.below H.bel
theorem WdH.tab {w W : World} {n : Net} {nx : List NsC} {nxA : Option Addr} {nxC : Nat} {h : Hst} {A : HsA} (H : WdH w W n nx nxA nxC h A) : Tab W nxA nx := H.old.2.1.below H.bel
theorem WdH.kw {w W : World} {n : Net} {nx : List NsC} {nxA : Option Addr} {nxC : Nat} {h : Hst} {A : HsA} (H : WdH w W n nx nxA nxC h A) : KW W := H.old.2.2.below H.bel
theorem WdH.below {w W W' : World} {n : Net} {nx : List NsC} {nxA : Option Addr} {nxC : Nat} {h : Hst} {A : HsA} (H : WdH w W n nx nxA nxC h A) (hb : Below W.heap.size W W') : WdH w W' n nx nxA nxC h A := ⟨H.old, H.hs.below hb, bt H.bel hb⟩
theorem WdH.upd {w W W' : World} {n : Net} {nx : List NsC} {nxA : Option Addr} {nxC : Nat} {h : Hst} {A : HsA} (H : WdH w W n nx nxA nxC h A) {k : Nat} {it it' : Itm} {a a' : ItA} (h1 : h.items[k]? = some it) (h2 : A.its[k]? = some a) (hs : ItStep w.heap.size W W' a a' it') (hp : it'.post = it.post) :
  WdH w W' n nx nxA nxC { h with items := h.items.set k it' } { A with its := A.its.set k a' } :=
 ⟨H.old, H.hs.upd h1 h2 hs hp, H.bel.trans (hs.chg.below H.bel.size (fun b hb => ((H.hs.blks h2).2.1 b hb).1))⟩
theorem HsIn.cell {base : Nat} {W : World} {n : Net} {nxA : Option Addr} {nxL nxC : Nat} {h : Hst} {A : HsA} (H : HsIn base W n nxA nxL nxC h A) {i : Nat} {v : Value} (hv : (#[.slice n.calA n.cals.length n.calC, .slice n.namA n.names.length n.namC, .slice n.opA n.ops.length n.opC, .slice n.offA n.offs.length n.offC, .slice n.linA n.lins.length n.linC, .slice n.clsA n.clss.length n.clsC, .slice nxA nxL nxC, .slice A.iB h.items.length A.iC, .map (some A.nm), .map (some A.cm)] : Array Value)[i]? = some v) : W.cell? ⟨A.hb, i, none⟩ = some v := (cell_of_row _ _ _ _ _ _ H.blk).trans hv
end
end Go.Proofs.YtpeaiphdkgifaaaGreatDoor
