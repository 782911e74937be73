/- Small lemmas that all walks of this seat use. Rows that are read, -/
import Derived.Test.YtpeaiphdkgifaaaGreatDoorProg
import Derived.WalkKit
import Derived.WalkSpells
import Derived.WalkLawsBesides
import Derived.Lib.Hide
import Derived.Deep.Draws
import Derived.Deep.QuietTactic
import Derived.BigQuiet
import Derived.Deep.LoopGhost
import Derived.StillTailTactics
import Derived.Deep.DeepFit
import Derived.Deep.AppendSrc
import Derived.Deep.AppendLies
import Derived.Deep.DeepMust
import Derived.OwnWalk
import Derived.Deep.RegionHeld3
import Derived.Laws.BytesArg
namespace Go.Proofs.YtpeaiphdkgifaaaGreatDoor
open Go.RowKit
set_option maxHeartbeats 20000000
set_option maxRecDepth 100000
abbrev aV (b o : Nat) : Addr := ⟨b, o, none⟩
theorem aA {w : World} {g : Nat} {cs : Array Value} {t : TypeId} {fr : Nat × Nat} (j : Nat) (h : w.heap[g]? = some (.cells cs t fr)) : w.cell? (aV g j) = cs[j]? := cell_of_row _ _ j _ _ _ h
theorem aB {p : Prop} (h : p) : Hid p := h
abbrev aC := @heap_alloc_new
abbrev aD := @List.getElem?_eq_getElem
abbrev aE := @List.getElem?_eq_some_iff
abbrev aF := @List.mem_of_getElem?
abbrev aG := @Nat.le_trans
abbrev aH := @Nat.le_refl
abbrev aI := @Nat.le_of_lt
abbrev aJ := @Below.refl
abbrev aK := @Below.heap_alloc
abbrev aL := @List.length_pos_iff
abbrev aM := @World.block_lt_of_cell?
abbrev aN := @Int.eq_ofNat_of_zero_le
abbrev aO := @IntWalk.i64_in
abbrev aP := @List.mem_append_right
abbrev aQ := @List.mem_append_left
abbrev aR := @List.mem_singleton
abbrev aS := @List.getElem?_map
abbrev aT := @World.size_alloc
abbrev aU := @beq_eq_false_iff_ne
theorem ah {a b : Bool} (h : a = b) : Ending.returned (.bool a) = .returned (.bool b) := by rw [h]
theorem iq {k : IntKind} {a b : Int} (h : a = b) : Ending.returned (.int k a) = .returned (.int k b) := by rw [h]
theorem ba_get (l : List UInt8) (k : Nat) (h : k < l.length) : (ByteArray.mk l.toArray)[k]'h = l[k] := rfl
theorem rU (l : List UInt8) (a b : Nat) : (ByteArray.mk l.toArray).extract a b = ByteArray.mk ((l.take b).drop a).toArray := by
 apply ByteArray.ext
 rw [ByteArray.data_extract]
 simp [List.drop_take]
theorem uK (l m : List UInt8) : ByteArray.mk l.toArray ++ ByteArray.mk m.toArray = ByteArray.mk (l ++ m).toArray := by
 apply ByteArray.ext
 rw [ByteArray.data_append]
 simp
theorem b9 {w : World} {base : Nat} {e : TypeId} {size : Nat} {v : Value} {n : Nat} {xs : List Value} (h : w.ownsRow base e size v n xs) : ∃ A c, v = .slice A n c := by
 rcases h.2 with ⟨rfl, rfl⟩ | ⟨g, cap, cur, rfl, _⟩
 ·exact ⟨none, 0, rfl⟩
 ·exact ⟨_, cap, rfl⟩
theorem cT {w w' : World} (h : Below w.heap.size w w') (row : Option Nat) : w.grownBy w' row := ⟨h.os, h.tape, h.output, h.size, fun i hi _ => h.block i hi⟩
theorem aq {w w' : World} {base : Nat} {e : TypeId} {size : Nat} {v : Value} {n : Nat} {xs : List Value} (h : w.ownsRow base e size v n xs) (hb : Below w.heap.size w w') : w'.ownsRow base e size v n xs :=
 h.kept (cT hb none) (by cases hv : v.ownBlock <;> simp)
theorem cn {w : World} {base base' : Nat} {e : TypeId} {size : Nat} {v : Value} {n : Nat} {xs : List Value} (h : w.ownsRow base e size v n xs) (hb : base' <= base) : w.ownsRow base' e size v n xs := by
 refine ⟨h.1, ?_⟩
 rcases h.2 with h2 | ⟨g, cap, cur, hv, hg, r⟩
 ·exact .inl h2
 ·exact .inr ⟨g, cap, cur, hv, aG hb hg, r⟩
theorem ai {B : Nat} {a w : World} (h : Below B a w) (n : Nat) : Below B a (w.drewN n) := ⟨h.os, h.tape, h.output, h.size, h.block⟩
theorem bt {a b c : World} (h : Below a.heap.size a b) (k : Below b.heap.size b c) : Below a.heap.size a c := h.trans (k.mono h.size)
theorem bdr {a b : World} (h : Below a.drew.heap.size a.drew b) : Below a.heap.size a b := ⟨h.os, h.tape, h.output, h.size, h.block⟩
theorem aa {w : World} {k : Nat} {o : Obj} (h : w.heap[k]? = some o) : k < w.heap.size := (Array.getElem?_eq_some_iff.1 h).1
theorem gr (b o j : Nat) : ((aV b o) : Addr).add j = (aV b (o + j)) := by unfold Addr.add; split <;> simp_all
theorem ac {w : World} {B : Nat} {cs : Array Value} {t : TypeId} (h : w.heap[B]? = some (.cells cs t (0, 0))) (j : Nat) : w.frozen? (aV B j) = false := by
 simp only [World.frozen?]
 rw [h]
 simp
abbrev bV (c : UInt8) : Value := .int .u8 c.toNat
abbrev sV (l : List UInt8) : Value := .string ⟨l.toArray⟩
abbrev iV (n : Int) : Value := .int .i64 n
def Rd (w : World) (A : Option Addr) (xs : List Value) : Prop :=
 xs = [] ∨ ∃ b off, A = some (aV b off) /\ b < w.heap.size /\ ∀ i u, xs[i]? = some u -> w.cell? (aV b (off + i)) = some u
theorem Rd.nil (w : World) (A : Option Addr) : Rd w A [] := .inl rfl
theorem Rd.get {w : World} {A : Option Addr} {xs : List Value} (h : Rd w A xs) {i : Nat} (hi : i < xs.length) :
  ∃ b off, A = some (aV b off) /\ b < w.heap.size /\ ∀ i u, xs[i]? = some u -> w.cell? (aV b (off + i)) = some u := by
 rcases h with rfl | h
 ·simp at hi
 ·exact h
theorem Rd.same {w w' : World} {A : Option Addr} {xs : List Value} (h : Rd w A xs) (hs : w.heap.size <= w'.heap.size) (hk : ∀ a, A = some a -> a.block < w.heap.size -> w'.heap[a.block]? = w.heap[a.block]?) : Rd w' A xs := by
 rcases h with h | ⟨b, off, rfl, hb, hc⟩
 ·exact .inl h
 ·refine .inr ⟨b, off, rfl, by omega, fun i u hu => ?_⟩
  rw [World.cell?_of_block (w := w) (w' := w') (a := (aV b (off + i))) (hk (aV b off) rfl hb)]
  exact hc i u hu
theorem Rd.below {w w' : World} {A : Option Addr} {xs : List Value} (h : Rd w A xs) (hb : Below w.heap.size w w') : Rd w' A xs :=
 h.same hb.size fun _ _ ha => hb.block _ ha
theorem Rd.take {w : World} {A : Option Addr} {xs : List Value} (h : Rd w A xs) (n : Nat) : Rd w A (xs.take n) := by
 rcases h with rfl | ⟨b, off, rfl, hb, hc⟩
 ·exact .inl (by simp)
 ·refine .inr ⟨b, off, rfl, hb, fun i u hu => hc i u ?_⟩
  rw [List.getElem?_take] at hu
  split at hu
  ·exact hu
  ·cases hu
theorem Rd.cell {w : World} {b off : Nat} {xs : List Value} (h : Rd w (some (aV b off)) xs) {i : Nat} (hi : i < xs.length) : w.cell? (aV b (off + i)) = some xs[i] := by
 obtain ⟨b, off, he, _, hc⟩ := h.get hi
 cases he
 exact hc i _ (aD hi)
theorem run_app {P : Program} (w : World) (base : Nat) (t tx ty e : TypeId) (i : TypeInfo) (z : Value) (size bytes : Nat) (ht : P.underlying t = some (.slice e)) (hi : P.info? e = some i) (hz : i.zero = some z)
  (hsize : i.size = size) (hby : i.bytes = bytes) (hzs : z.cells.size = size)
  (v : Value) (n : Nat) (xs : List Value) (hown : w.ownsRow base e size v n xs) (x : Value) (m : Nat) (news : List Value) (hs : Src P size tx x m news w)
  (h63 : n + m <= maxLen) (hbytes : (n + m) * bytes <= 140737488355328) (hbase : base <= w.heap.size) :
  ∃ v' w', (Builtin.append_ #[t, tx] ty #[v, x]).run P w = .ok v' w' /\ w'.ownsRow base e size v' (n + m) (xs ++ news) /\ w.grownBy w' v.ownBlock /\ (v'.ownBlock = v.ownBlock ∨ v'.ownBlock = some w.heap.size) := by
 subst hsize
 subst hby
 have hsmall : n + m <= 9223372036854775807 := by simp only [maxLen] at h63; omega
 have hl := hs.newsLen
 have hlen : (xs ++ news).length = (n + m) * i.size := by rw [List.length_append, hown.1, hl, Nat.add_mul]
 have grown : ∀ (old : Nat), old < n + m -> ∀ (row : Option Nat),
   (w.drew.alloc (.cells ((xs ++ news).toArray ++ Builtin.zeroCells z.cells (grownCap w (n + m) old e - (n + m))) e)).ownsRow base e i.size
    (.slice (some (aV w.heap.size 0)) (n + m) (grownCap w (n + m) old e)) (n + m) (xs ++ news) /\
   w.grownBy (w.drew.alloc (.cells ((xs ++ news).toArray ++ Builtin.zeroCells z.cells (grownCap w (n + m) old e - (n + m))) e)) row := by
  intro old ho row
  have hge := grownCap_ge w (n + m) old e
  have hcm : grownCap w (n + m) old e <= maxLen := grownCap_le_maxLen w (n + m) old e h63
  refine ⟨⟨hlen, .inr ⟨w.heap.size, _, _, rfl, hbase, aC w.drew _, hge, hcm, ?_, ?_⟩⟩, ⟨rfl, rfl, rfl, by simp, fun k hk _ => aK w.drew _ k hk⟩⟩
  ·rw [Array.size_append, List.size_toArray, size_zeroCells, hzs, hlen, <- Nat.add_mul]
   congr 1
   omega
  ·rw [Array.toList_append, List.toList_toArray, <- hlen]
   exact List.take_left
 rcases hown.2 with ⟨rfl, rfl⟩ | ⟨g, cap, cur, rfl, hbg, hg, hnc, hcm, hcs, htake⟩
 ·have hx : xs = [] := List.eq_nil_of_length_eq_zero (by simpa using hown.1)
  subst hx
  by_cases hm : m = 0
  ·subst hm
   have hn : news = [] := List.eq_nil_of_length_eq_zero (by simpa using hl)
   subst hn
   refine ⟨.slice none 0 0, w, ?_, World.ownsRow_nil w base e i.size, ⟨rfl, rfl, rfl, aH _, fun _ _ _ => rfl⟩, .inl rfl⟩
   rcases hs.kind with ⟨e', hk⟩ | hk <;>
    simp [Builtin.append_, run_underlying ht, run_underlying hk, sizeOf, typeInfo, hi, hs.len, hs.cells]
  ·have hr := run_append_grow_src (P := P) w t tx ty e i z ht hi hz none 0 0 [] (run_firstCells_none w.drew i.size 0 0 0) x m news hs (by omega) (by omega) (growslice_fits (by omega) hbytes)
   have hgr := grown 0 (by omega) (Value.ownBlock (.slice none 0 0))
   exact ⟨_, _, hr, hgr.1, hgr.2, .inr rfl⟩
 ·by_cases hroom : n + m <= cap
  ·have hfit : n * i.size + news.length <= cur.size := by rw [hl, hcs, <- Nat.add_mul]; exact Nat.mul_le_mul_right _ hroom
   have hst := run_storeCells_at P g (n * i.size) e news 0 cur w hg (by simpa using hfit) hs.one
   simp only [Nat.add_zero] at hst
   have hr : (Builtin.append_ #[t, tx] ty #[.slice (some (aV g 0)) n cap, x]).run P w =
     .ok (.slice (some (aV g 0)) (n + m) cap) (w.setRow g (cur.toList.take (n * i.size) ++ news ++ cur.toList.drop (n * i.size + news.length)).toArray) := by
    rcases hs.kind with ⟨e', hk⟩ | hk <;>
     simp [Builtin.append_, run_underlying ht, run_underlying hk, sizeOf, typeInfo, hi, hs.len, hroom, hs.cells, Addr.add_lit, hst]
   refine ⟨_, _, hr, ⟨hlen, .inr ⟨g, cap, _, rfl, hbg, setRow_heap w g cur _ e _ hg, hroom, hcm, ?_, ?_⟩⟩, ⟨rfl, rfl, rfl, by simp, fun k _ hk => setRow_other w g k _ (fun e => hk (by simp [Value.ownBlock, e]))⟩, .inl rfl⟩
   ·simp only [List.size_toArray, List.length_append, List.length_take, List.length_drop, Array.length_toList]
    omega
   ·rw [htake, <- hlen]
    exact List.take_left
  ·have holds : ∀ j u, xs[j]? = some u -> w.cell? (((aV g 0) : Addr).add j) = some u := hown.cells (g := g) rfl
   have hr := run_append_grow_src (P := P) w t tx ty e i z ht hi hz (some (aV g 0)) n cap xs (run_firstCells_some w.drew i.size n (aV g 0) n cap xs hown.1 (by simpa using holds)) x m news hs (by omega) (by omega) (growslice_fits (by omega) hbytes)
   have hgr := grown cap (by omega) (Value.ownBlock (.slice (some (aV g 0)) n cap))
   exact ⟨_, _, hr, hgr.1, hgr.2, .inr rfl⟩
theorem uR {P : Program} {w : World} {o : Oper} {a : Act} {K : Act -> World -> Prop} {Q : Exit -> Act -> World -> Prop} (s x : Operand) (t tx : TypeId)
  (ho : o.op = .call { callee := .builtin .append, args := #[s, x], argTypes := #[t, tx] })
  (base : Nat) (e : TypeId) (i : TypeInfo) (z : Value) (size bytes : Nat) (ht : P.underlying t = some (.slice e)) (hi : P.info? e = some i) (hz : i.zero = some z)
  (hsize : i.size = size) (hby : i.bytes = bytes) (hzs : z.cells.size = size)
  (v : Value) (n : Nat) (xs : List Value) (hs : a.eval s = v) (hown : w.ownsRow base e size v n xs) (vx : Value) (hx : a.eval x = vx) (m : Nat) (news : List Value) (hsrc : Src P size tx vx m news w)
  (h63 : n + m <= maxLen) (hbytes : (n + m) * bytes <= 140737488355328) (hbase : base <= w.heap.size)
  (h : ∀ A c w', w'.ownsRow base e size (.slice A (n + m) c) (n + m) (xs ++ news) -> w.grownBy w' v.ownBlock -> ((Value.slice A (n + m) c).ownBlock = v.ownBlock ∨ (Value.slice A (n + m) c).ownBlock = some w.heap.size) -> K (a.put o.dst (.slice A (n + m) c)) w') : o.wp P a w K Q := by
 obtain ⟨v', w', hr, h2, h3, h4⟩ := run_app (P := P) w base t tx o.type e i z size bytes ht hi hz hsize hby hzs v n xs hown vx m news hsrc h63 hbytes hbase
 obtain ⟨A, c, rfl⟩ := b9 h2
 unfold Oper.wp execOp
 simp only [ho, resolve, invoke, builtin, Sem.run_bind, Sem.run_pure, Result.andThen_ok, List.map_toArray, List.map_cons, List.map_nil, hs, hx, hr]
 exact h A c w' h2 h3 h4
theorem bg {P : Program} {w : World} {ops : Array Oper} {rest : List Oper} {o : Oper} {a : Act} {Q : Exit -> Act -> World -> Prop} (hgd : o.guard = none) (s x : Operand) (t tx : TypeId)
  (ho : o.op = .call { callee := .builtin .append, args := #[s, x], argTypes := #[t, tx] })
  (base : Nat) (e : TypeId) (i : TypeInfo) (z : Value) (size bytes : Nat) (ht : P.underlying t = some (.slice e)) (hi : P.info? e = some i) (hz : i.zero = some z)
  (hsize : i.size = size) (hby : i.bytes = bytes) (hzs : z.cells.size = size)
  (v : Value) (n : Nat) (xs : List Value) (hs : a.eval s = v) (hown : w.ownsRow base e size v n xs) (vx : Value) (hx : a.eval x = vx) (m : Nat) (news : List Value) (hsrc : Src P size tx vx m news w)
  (h63 : n + m <= maxLen) (hbytes : (n + m) * bytes <= 140737488355328) (hbase : base <= w.heap.size)
  (h : ∀ A c w', w'.ownsRow base e size (.slice A (n + m) c) (n + m) (xs ++ news) -> w.grownBy w' v.ownBlock -> ((Value.slice A (n + m) c).ownBlock = v.ownBlock ∨ (Value.slice A (n + m) c).ownBlock = some w.heap.size) -> wpList P ops Q rest (a.put o.dst (.slice A (n + m) c)) w') : wpList P ops Q (o :: rest) a w :=
 wpList_plain hgd fun _ hK => uR s x t tx ho base e i z size bytes ht hi hz hsize hby hzs v n xs hs hown vx hx m news hsrc h63 hbytes hbase fun A c w' h2 h3 h4 => hK _ _ (h A c w' h2 h3 h4)
def I64 (n : Int) : Prop := -9223372036854775808 <= n /\ n <= 9223372036854775807
structure Cal where
 zone : Int
 week : List Bool
 wA : Option Addr
 wc : Nat
 hol : List Int
 hA : Option Addr
 hc : Nat
structure Off where
 name : List UInt8
 op : Int
 cal : Int
 pockets : Int
 passes : Int
 minutes : Int
 codes : List (List UInt8)
 cA : Option Addr
 cc : Nat
structure Lin where
 name : List UInt8
 frm : Int
 to : Int
 at_ : Int
 travel : Int
 load : Int
structure Cls where
 name : List UInt8
 cut : Int
 deliver : Int
structure Net where
 cals : List Cal
 calA : Option Addr
 calC : Nat
 names : List (List UInt8)
 namA : Option Addr
 namC : Nat
 ops : List (List UInt8)
 opA : Option Addr
 opC : Nat
 offs : List Off
 offA : Option Addr
 offC : Nat
 lins : List Lin
 linA : Option Addr
 linC : Nat
 clss : List Cls
 clsA : Option Addr
 clsC : Nat
abbrev oV (b : Bool) : Value := .bool b
def dZ (c : Cal) : List Value := [iV c.zone, .slice c.wA c.week.length c.wc, .slice c.hA c.hol.length c.hc]
abbrev eI (c : Cal) : Value := .agg #[iV c.zone, .slice c.wA c.week.length c.wc, .slice c.hA c.hol.length c.hc]
def jb (o : Off) : List Value := [sV o.name, iV o.op, iV o.cal, iV o.pockets, iV o.passes, iV o.minutes, .slice o.cA o.codes.length o.cc]
abbrev tP (o : Off) : Value := .agg #[sV o.name, iV o.op, iV o.cal, iV o.pockets, iV o.passes, iV o.minutes, .slice o.cA o.codes.length o.cc]
def kV (l : Lin) : List Value := [sV l.name, iV l.frm, iV l.to, iV l.at_, iV l.travel, iV l.load]
abbrev ud (l : Lin) : Value := .agg #[sV l.name, iV l.frm, iV l.to, iV l.at_, iV l.travel, iV l.load]
def kW (k : Cls) : List Value := [sV k.name, iV k.cut, iV k.deliver]
abbrev clsV (k : Cls) : Value := .agg #[sV k.name, iV k.cut, iV k.deliver]
def iW (n : Net) : Array Value := #[.slice n.calA n.cals.length n.calC, .slice n.namA n.names.length n.namC, .slice n.opA n.ops.length n.opC, .slice n.offA n.offs.length n.offC, .slice n.linA n.lins.length n.linC, .slice n.clsA n.clss.length n.clsC]
theorem fp (c : Cal) : (dZ c).length = 3 := rfl
theorem cQ (o : Off) : (jb o).length = 7 := rfl
theorem bT (l : Lin) : (kV l).length = 6 := rfl
theorem dh (k : Cls) : (kW k).length = 3 := rfl
theorem g7 {α : Type} (f : α -> List Value) (k : Nat) (hk : ∀ x, (f x).length = k) : ∀ (l : List α) (i j : Nat) (_ : i < l.length) (_ : j < k), (l.flatMap f)[i * k + j]? = (f (l[i]'(by assumption)))[j]?
 | x :: l, 0, j, _, hj => by
  rw [List.flatMap_cons, Nat.zero_mul, Nat.zero_add, List.getElem?_append_left (by rw [hk]; exact hj)]
  rfl
 | x :: l, i + 1, j, hi, hj => by
  have hi' : i < l.length := by simpa using hi
  rw [List.flatMap_cons, List.getElem?_append_right (by rw [hk, Nat.succ_mul]; omega), hk, show (i + 1) * k + j - k = i * k + j by rw [Nat.succ_mul]; omega, g7 f k hk l i j hi' hj]
  rfl
def cP (w : World) (c : Cal) : Prop := I64 c.zone /\ Rd w c.wA (c.week.map oV) /\ Rd w c.hA (c.hol.map iV) /\ (∀ n ∈ c.hol, I64 n) /\ c.week.length <= maxLen /\ c.hol.length <= maxLen
theorem cP.below {w w' : World} {c : Cal} (h : cP w c) (hb : Below w.heap.size w w') : cP w' c := ⟨h.1, h.2.1.below hb, h.2.2.1.below hb, h.2.2.2⟩
def jL (w : World) (o : Off) : Prop := (o.name.length <= maxLen /\ I64 o.op /\ I64 o.cal /\ I64 o.pockets /\ I64 o.passes /\ I64 o.minutes) /\ Rd w o.cA (o.codes.map sV) /\ (∀ s ∈ o.codes, s.length <= maxLen) /\ o.codes.length <= maxLen
theorem jL.below {w w' : World} {o : Off} (h : jL w o) (hb : Below w.heap.size w w') : jL w' o := ⟨h.1, h.2.1.below hb, h.2.2⟩
def xa (l : Lin) : Prop := l.name.length <= maxLen /\ I64 l.frm /\ I64 l.to /\ I64 l.at_ /\ I64 l.travel /\ I64 l.load
def xe (k : Cls) : Prop := k.name.length <= maxLen /\ I64 k.cut /\ I64 k.deliver
structure bj (w : World) (n : Net) : Prop where
 cals : Rd w n.calA (n.cals.flatMap dZ)
 cal : ∀ c ∈ n.cals, cP w c
 names : Rd w n.namA (n.names.map sV)
 name : ∀ s ∈ n.names, s.length <= maxLen
 ops : Rd w n.opA (n.ops.map sV)
 op : ∀ s ∈ n.ops, s.length <= maxLen
 offs : Rd w n.offA (n.offs.flatMap jb)
 off : ∀ o ∈ n.offs, jL w o
 lins : Rd w n.linA (n.lins.flatMap kV)
 lin : ∀ l ∈ n.lins, xa l
 clss : Rd w n.clsA (n.clss.flatMap kW)
 cls : ∀ k ∈ n.clss, xe k
 lens : n.cals.length <= maxLen /\ n.names.length <= maxLen /\ n.ops.length <= maxLen /\ n.offs.length <= maxLen /\ n.lins.length <= maxLen /\ n.clss.length <= maxLen
theorem bj.below {w w' : World} {n : Net} (h : bj w n) (hb : Below w.heap.size w w') : bj w' n :=
 ⟨h.cals.below hb, fun c hc => (h.cal c hc).below hb, h.names.below hb, h.name, h.ops.below hb, h.op, h.offs.below hb, fun o ho => (h.off o ho).below hb, h.lins.below hb, h.lin, h.clss.below hb, h.cls, h.lens⟩
theorem Rd.elem {α : Type} {f : α -> List Value} {k : Nat} (hk : ∀ x, (f x).length = k) {w : World} {A : Option Addr} {l : List α} (h : Rd w A (l.flatMap f)) {i : Nat} (hi : i < l.length) (hk0 : 0 < k) :
  ∃ b off, A = some (aV b off) /\ b < w.heap.size /\ ∀ j v, (f l[i])[j]? = some v -> w.cell? (aV b (off + (i * k + j))) = some v := by
 have hg := g7 f k hk l i 0 hi hk0
 have hlt : i * k + 0 < (l.flatMap f).length := by
  rcases Nat.lt_or_ge (i * k + 0) (l.flatMap f).length with h1 | h1
  ·exact h1
  ·rw [List.getElem?_eq_none h1] at hg
   have := List.getElem?_eq_none_iff.1 hg.symm
   rw [hk] at this
   omega
 obtain ⟨b, off, rfl, hb, hc⟩ := h.get hlt
 refine ⟨b, off, rfl, hb, fun j v hj => hc _ v ?_⟩
 have hjk : j < k := by
  rcases Nat.lt_or_ge j k with h1 | h1
  ·exact h1
  ·rw [List.getElem?_eq_none (by rw [hk]; exact h1)] at hj; cases hj
 rw [g7 f k hk l i j hi hjk]
 exact hj
def upB : List Int -> Bool
 | a :: b :: l => decide (a < b) && upB (b :: l)
 | _ => true
def du (c : Cal) : Bool := decide (-720 <= c.zone) && decide (c.zone <= 840) && decide (c.week.length = 7) && decide (c.hol.length <= 40) && upB c.hol
def cz (c : Cal) (d : Int) : Bool := c.week.getD (d % 7).toNat false && !decide (d ∈ c.hol)
def dr (d : Int) : Bool := decide (-1000000 <= d) && decide (d <= 1000000)
def dL (c : Cal) : Nat -> Int -> Option Int
 | 0, _ => none
 | n + 1, d => if cz c d then some d else dL c n (d + 1)
def gj (c : Cal) (d : Int) : Int × Int := match dL c 60 d with
 | some x => (x, 0)
 | none => (0, 20)
def bc (c : Cal) (t : Int) : Int := (t + c.zone) / 1440
def fN (c : Cal) (t : Int) : Int := (t + c.zone) % 1440
def be (c : Cal) (d m : Int) : Int := d * 1440 + m - c.zone
def ak (c : Cal) (m t : Int) : Int × Int :=
 match dL c 60 (if m < fN c t then bc c t + 1 else bc c t) with
 | some d => (be c d m, 0)
 | none => (0, 20)
theorem cV {c : Cal} (h : du c = true) : -720 <= c.zone /\ c.zone <= 840 /\ c.week.length = 7 /\ c.hol.length <= 40 /\ upB c.hol = true := by
 unfold du at h
 simpa [and_assoc] using h
theorem il : ∀ {l : List Int}, upB l = true -> l.Pairwise (· < ·)
 | [], _ => List.Pairwise.nil
 | [a], _ => List.pairwise_singleton _ _
 | a :: b :: l, h => by
  simp only [upB, Bool.and_eq_true, decide_eq_true_eq] at h
  have ih := il h.2
  refine List.pairwise_cons.2 ⟨fun x hx => ?_, ih⟩
  rcases List.mem_cons.1 hx with rfl | hx
  ·exact h.1
  ·have := (List.pairwise_cons.1 ih).1 x hx
   omega
theorem dK {c : Cal} : ∀ {n : Nat} {d x : Int}, dL c n d = some x -> d <= x /\ x < d + n /\ cz c x = true /\ ∀ y, d <= y -> y < x -> cz c y = false
 | n + 1, d, x, h => by
  simp only [dL] at h
  by_cases hw : cz c d = true
  ·rw [if_pos hw] at h
   cases h
   exact ⟨Int.le_refl _, by omega, hw, fun y h1 h2 => by omega⟩
  ·rw [if_neg hw] at h
   obtain ⟨h1, h2, h3, h4⟩ := dK h
   refine ⟨by omega, by omega, h3, fun y h5 h6 => ?_⟩
   by_cases hy : y = d
   ·subst hy; simpa using hw
   ·exact h4 y (by omega) h6
theorem iu {c : Cal} : ∀ {n : Nat} {d : Int}, dL c n d = none -> ∀ y, d <= y -> y < d + n -> cz c y = false
 | 0, d, _, y, h1, h2 => by omega
 | n + 1, d, h, y, h1, h2 => by
  simp only [dL] at h
  by_cases hw : cz c d = true
  ·rw [if_pos hw] at h; cases h
  ·rw [if_neg hw] at h
   by_cases hy : y = d
   ·subst hy; simpa using hw
   ·exact iu h y (by omega) (by omega)
end Go.Proofs.YtpeaiphdkgifaaaGreatDoor
