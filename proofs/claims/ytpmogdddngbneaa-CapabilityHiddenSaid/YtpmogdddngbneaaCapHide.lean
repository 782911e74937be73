/-
  Lists of events and of numbers that a call makes itself: what is known of them while it goes on.
-/
import Derived.Test.YtpmogdddngbneaaLawDoubt
namespace Go.Proofs.Ytpmogdddngbneaa
open Go.RowKit Go.Sort

/-- A box with an event whose numbers are gathered. -/
structure Bx (w : World) (X : Nat) (s : Sight) (v : Value) (ns : List Int) : Prop where
  c0 : w.cell? ⟨X, 0, none⟩ = some (iV s.o)
  c1 : w.cell? ⟨X, 1, none⟩ = some (iV s.lo)
  c2 : w.cell? ⟨X, 2, none⟩ = some (iV s.hi)
  c3 : w.cell? ⟨X, 3, none⟩ = some v
  f3 : w.frozen? ⟨X, 3, none⟩ = false
  row : w.ownsRow (X + 1) 3 1 v ns.length (ns.map iV)
theorem Bx.lt {w : World} {X : Nat} {s : Sight} {v : Value} {ns : List Int} (h : Bx w X s v ns) : X < w.heap.size := cell_lt h.c0
theorem Bx.start (w : World) (s : Sight) (X : Nat) (hX : w.heap.size = X) : Bx (w.alloc (.cells #[iV s.o, iV s.lo, iV s.hi, .slice none 0 0] 42)) X s (.slice none 0 0) [] := by
  subst hX
  have h := heap_alloc_new w (.cells #[iV s.o, iV s.lo, iV s.hi, .slice none 0 0] 42)
  exact ⟨cell_of_blk _ _ 0 _ _ h rfl, cell_of_blk _ _ 1 _ _ h rfl, cell_of_blk _ _ 2 _ _ h rfl, cell_of_blk _ _ 3 _ _ h rfl, frozen_row h 3, World.ownsRow_nil _ _ _ _⟩
theorem Bx.below {w w' : World} {X : Nat} {s : Sight} {v : Value} {ns : List Int} (h : Bx w X s v ns) (hb : Below w.heap.size w w') : Bx w' X s v ns :=
  have k : ∀ {j u}, w.cell? ⟨X, j, none⟩ = some u → w'.cell? ⟨X, j, none⟩ = some u := fun {j _} q => (hb.cell (p := ⟨X, j, none⟩) h.lt).trans q
  ⟨k h.c0, k h.c1, k h.c2, k h.c3, (hb.frozen (p := ⟨X, 3, none⟩) h.lt).trans h.f3, own_below h.row hb⟩
theorem Bx.away {w : World} {X : Nat} {s : Sight} {v : Value} {ns : List Int} (h : Bx w X s v ns) : some X ≠ v.ownBlock := fun e => by have := h.row.lt X e.symm; omega
/-- The row has grown: what the box holds then. -/
theorem Bx.grew {w w' : World} {X : Nat} {s : Sight} {v : Value} {ns : List Int} (h : Bx w X s v ns) (hg : w.grownBy w' v.ownBlock) :
    w'.cell? ⟨X, 0, none⟩ = some (iV s.o) ∧ w'.cell? ⟨X, 1, none⟩ = some (iV s.lo) ∧ w'.cell? ⟨X, 2, none⟩ = some (iV s.hi) ∧ w'.cell? ⟨X, 3, none⟩ = some v ∧ w'.frozen? ⟨X, 3, none⟩ = false := by
  have hb : w'.heap[X]? = w.heap[X]? := hg.block X h.lt h.away
  have k : ∀ {j u}, w.cell? ⟨X, j, none⟩ = some u → w'.cell? ⟨X, j, none⟩ = some u := fun {j _} q => (World.cell?_of_block (a := ⟨X, j, none⟩) hb).trans q
  exact ⟨k h.c0, k h.c1, k h.c2, k h.c3, (World.frozen?_of_block (a := ⟨X, 3, none⟩) hb).trans h.f3⟩
theorem Bx.put {w w' : World} {X : Nat} {s : Sight} {v v' : Value} {ns : List Int} {n : Int} (h : Bx w X s v ns) (hg : w.grownBy w' v.ownBlock) (ho : w'.ownsRow (X + 1) 3 1 v' (ns.length + 1) (ns.map iV ++ [n].map iV)) :
    Bx (w'.setCell ⟨X, 3, none⟩ v') X s v' (ns ++ [n]) := by
  obtain ⟨c0, c1, c2, c3, f3⟩ := h.grew hg
  refine ⟨?_, ?_, ?_, ?_, ?_, ?_⟩
  · rw [World.cell?_setCell_other _ _ _ _ (by simp)]; exact c0
  · rw [World.cell?_setCell_other _ _ _ _ (by simp)]; exact c1
  · rw [World.cell?_setCell_other _ _ _ _ (by simp)]; exact c2
  · exact World.cell?_setCell_same' _ _ _ (by rw [c3]; rfl)
  · rw [World.frozen?_setCell]; exact f3
  · have := ownsRow_setCell_below ho (a := ⟨X, 3, none⟩) (by simp) v'
    simpa using this
theorem set_below {B : Nat} {w w' : World} (h : Below B w w') {X : Nat} (hX : B ≤ X) (j : Nat) (v : Value) : Below B w (w'.setCell ⟨X, j, none⟩ v) := h.setCell (by simpa using hX) v
/-- Events that a call has gathered. -/
structure Outs (w : World) (B : Nat) (v : Value) (L : List EvC) : Prop where
  row : w.ownsRow B 42 4 v L.length (L.flatMap encE)
  el : ∀ x ∈ L, (x.ev.s.ok ∧ Nums w x.A x.ev.needs) ∧ ∀ a, x.A = some a → a.block < w.heap.size ∧ some a.block ≠ v.ownBlock
theorem Outs.start (w : World) (B : Nat) (hB : w.heap.size = B) : Outs (w.alloc (.cells #[] 42)) B (.slice (some ⟨B, 0, none⟩) 0 0) [] :=
  ⟨own_none w _ 4 _ _ hB (Nat.le_refl _), fun x hx => by cases hx⟩
theorem Outs.below {w w' : World} {B : Nat} {v : Value} {L : List EvC} (h : Outs w B v L) (hb : Below w.heap.size w w') : Outs w' B v L :=
  ⟨own_below h.row hb, fun x hx => ⟨⟨(h.el x hx).1.1, (h.el x hx).1.2.below hb⟩, fun a ha => ⟨Nat.lt_of_lt_of_le ((h.el x hx).2 a ha).1 hb.size, ((h.el x hx).2 a ha).2⟩⟩⟩
theorem Nums.grown {w w' : World} {A : Option Addr} {ns : List Int} (h : Nums w A ns) {r : Option Nat} (hg : w.grownBy w' r) (ha : ∀ a, A = some a → some a.block ≠ r) : Nums w' A ns :=
  ⟨h.1.same hg.size fun a e hl => hg.block _ hl (ha a e), h.2⟩
theorem Outs.put {w w' : World} {B : Nat} {v v' : Value} {L : List EvC} {x : EvC} (h : Outs w B v L) (hx : x.ev.s.ok ∧ Nums w x.A x.ev.needs) (ha : ∀ a, x.A = some a → a.block < w.heap.size ∧ some a.block ≠ v.ownBlock)
    (ho : w'.ownsRow B 42 4 v' (L.length + 1) (L.flatMap encE ++ encE x)) (hg : w.grownBy w' v.ownBlock) (hat : v'.ownBlock = v.ownBlock ∨ v'.ownBlock = some w.heap.size) : Outs w' B v' (L ++ [x]) := by
  refine ⟨by simpa using ho, fun y hy => ?_⟩
  have hy' : (y.ev.s.ok ∧ Nums w y.A y.ev.needs) ∧ ∀ a, y.A = some a → a.block < w.heap.size ∧ some a.block ≠ v.ownBlock := by
    rcases List.mem_append.1 hy with hy | hy
    · exact h.el y hy
    · rw [List.mem_singleton.1 hy]; exact ⟨hx, ha⟩
  refine ⟨⟨hy'.1.1, hy'.1.2.grown hg fun a e => (hy'.2 a e).2⟩, fun a e => ⟨Nat.lt_of_lt_of_le (hy'.2 a e).1 hg.size, ?_⟩⟩
  rcases hat with h1 | h1
  · rw [h1]; exact (hy'.2 a e).2
  · rw [h1]; exact fun h2 => by have := (hy'.2 a e).1; injection h2 with h2; omega
theorem Outs.events {w : World} {B c : Nat} {A : Option Addr} {L : List EvC} (h : Outs w B (.slice A L.length c) L) (hl : L.length ≤ 1000000) : Events w A L :=
  ⟨own_rdk h.row, fun x hx => (h.el x hx).1, hl⟩
/-- Lists of numbers that a call has gathered. -/
structure OutW (w : World) (B : Nat) (v : Value) (L : List NsC) : Prop where
  row : w.ownsRow B 34 1 v L.length (L.map slI)
  el : ∀ x ∈ L, Nums w x.A x.ns ∧ ∀ a, x.A = some a → a.block < w.heap.size ∧ some a.block ≠ v.ownBlock
theorem OutW.start (w : World) (B : Nat) (hB : w.heap.size = B) : OutW (w.alloc (.cells #[] 34)) B (.slice (some ⟨B, 0, none⟩) 0 0) [] :=
  ⟨own_none w _ 1 _ _ hB (Nat.le_refl _), fun x hx => by cases hx⟩
theorem OutW.below {w w' : World} {B : Nat} {v : Value} {L : List NsC} (h : OutW w B v L) (hb : Below w.heap.size w w') : OutW w' B v L :=
  ⟨own_below h.row hb, fun x hx => ⟨(h.el x hx).1.below hb, fun a ha => ⟨Nat.lt_of_lt_of_le ((h.el x hx).2 a ha).1 hb.size, ((h.el x hx).2 a ha).2⟩⟩⟩
theorem OutW.put {w w' : World} {B : Nat} {v v' : Value} {L : List NsC} {x : NsC} (h : OutW w B v L) (hx : Nums w x.A x.ns) (ha : ∀ a, x.A = some a → a.block < w.heap.size ∧ some a.block ≠ v.ownBlock)
    (ho : w'.ownsRow B 34 1 v' (L.length + 1) (L.map slI ++ [slI x])) (hg : w.grownBy w' v.ownBlock) (hat : v'.ownBlock = v.ownBlock ∨ v'.ownBlock = some w.heap.size) : OutW w' B v' (L ++ [x]) := by
  refine ⟨by simpa using ho, fun y hy => ?_⟩
  have hy' : Nums w y.A y.ns ∧ ∀ a, y.A = some a → a.block < w.heap.size ∧ some a.block ≠ v.ownBlock := by
    rcases List.mem_append.1 hy with hy | hy
    · exact h.el y hy
    · rw [List.mem_singleton.1 hy]; exact ⟨hx, ha⟩
  refine ⟨hy'.1.grown hg fun a e => (hy'.2 a e).2, fun a e => ⟨Nat.lt_of_lt_of_le (hy'.2 a e).1 hg.size, ?_⟩⟩
  rcases hat with h1 | h1
  · rw [h1]; exact (hy'.2 a e).2
  · rw [h1]; exact fun h2 => by have := (hy'.2 a e).1; injection h2 with h2; omega
theorem OutW.worlds {w : World} {B c : Nat} {A : Option Addr} {L : List NsC} (h : OutW w B (.slice A L.length c) L) (hl : L.length ≤ 1000000) : Worlds w A L :=
  ⟨own_rdk h.row, fun x hx => (h.el x hx).1, hl⟩
/-- A row of the call's own, as a list of numbers; it lies at base or beyond. -/
theorem own_nums {w : World} {base c n : Nat} {e : TypeId} {A : Option Addr} {ns : List Int} (h : w.ownsRow base e 1 (.slice A n c) n (ns.map iV)) (hi : ∀ n ∈ ns, I64 n) (hl : ns.length ≤ 1000000) : Nums w A ns := ⟨own_rdk h, hi, hl⟩
theorem own_at {w : World} {base c n k : Nat} {e : TypeId} {A : Option Addr} {xs : List Value} (h : w.ownsRow base e k (.slice A n c) n xs) : ∀ a, A = some a → a.block < w.heap.size ∧ base ≤ a.block := by
  intro a ha
  subst ha
  rcases h.2 with ⟨h1, _⟩ | ⟨g, cap, cur, hv, hg, hgr, _⟩
  · cases h1
  · cases hv
    exact ⟨block_lt hgr, hg⟩

/-- All numbers greater by d. -/
def up (d : Int) (ns : List Int) : List Int := ns.map (· + d)
def upE (d : Int) (e : Ev) : Ev := ⟨e.s, up d e.needs⟩
def hideE (ws : List NsC) (d : Int) (es : List EvC) : List Ev := (((evsOf es).filter (surely ws)).reverse).map (upE d)
def hideW (d : Int) (ws : List NsC) : List (List Int) := (nsOf ws).reverse.map (up d)
theorem up_len (d : Int) (ns : List Int) : (up d ns).length = ns.length := by unfold up; simp
theorem up_take (d : Int) (ns : List Int) (k : Nat) (h : k < ns.length) : up d (ns.take (k + 1)) = up d (ns.take k) ++ [ns[k] + d] := by
  unfold up; rw [List.take_succ_eq_append_getElem h, List.map_append]; rfl
theorem up_mem (d n : Int) (ns : List Int) : n + d ∈ up d ns ↔ n ∈ ns := by
  unfold up
  rw [List.mem_map]
  exact ⟨fun ⟨m, hm, e⟩ => by have : m = n := by omega
                              exact this ▸ hm, fun h => ⟨n, h, rfl⟩⟩
theorem hideE_yes {ws : List NsC} {d : Int} {es : List EvC} {j : Nat} (hj : j < es.length) (hs : surely ws es[j].ev = true) : hideE ws d (es.drop j) = hideE ws d (es.drop (j + 1)) ++ [upE d es[j].ev] := by
  unfold hideE
  rw [List.drop_eq_getElem_cons hj, evsOf, List.map_cons, List.filter_cons_of_pos hs, List.reverse_cons, List.map_append]; rfl
theorem hideE_no {ws : List NsC} {d : Int} {es : List EvC} {j : Nat} (hj : j < es.length) (hs : surely ws es[j].ev = false) : hideE ws d (es.drop j) = hideE ws d (es.drop (j + 1)) := by
  unfold hideE
  rw [List.drop_eq_getElem_cons hj, evsOf, List.map_cons, List.filter_cons_of_neg (by simp [hs])]
theorem hideW_step {d : Int} {ws : List NsC} {j : Nat} (hj : j < ws.length) : hideW d (ws.drop j) = hideW d (ws.drop (j + 1)) ++ [up d ws[j].ns] := by
  unfold hideW
  rw [List.drop_eq_getElem_cons hj, nsOf, List.map_cons, List.reverse_cons, List.map_append]; rfl
theorem sureB_up (d : Int) (ws : List (List Int)) (e : Ev) : sureB (ws.reverse.map (up d)) (upE d e) = sureB ws e := by
  unfold sureB upE
  rw [Bool.eq_iff_iff, List.all_eq_true, List.all_eq_true]
  constructor
  · intro h l hl
    have := h (up d l) (List.mem_map.2 ⟨l, List.mem_reverse.2 hl, rfl⟩)
    rw [List.all_eq_true] at this ⊢
    intro n hn
    have := this (n + d) ((up_mem d n l).2 hn)
    simp only [up_mem] at this
    exact this
  · intro h l hl
    obtain ⟨m, hm, rfl⟩ := List.mem_map.1 hl
    have := h m (List.mem_reverse.1 hm)
    rw [List.all_eq_true] at this ⊢
    intro n hn
    obtain ⟨k, hk, rfl⟩ := List.mem_map.1 hn
    have := this k hk
    simp only [up_mem]
    exact this
theorem hide_seen {ws : List NsC} {es : List EvC} {d : Int} {o : List Sight} (h : Seen (evsOf es) (nsOf ws) o) : Seen (hideE ws d es) (hideW d ws) o := by
  refine ⟨h.1, fun s => (h.2 s).trans ?_⟩
  unfold IsSeen hideE hideW
  have e0 : (nsOf ws ≠ []) ↔ ((nsOf ws).reverse.map (up d) ≠ []) := by simp
  rw [e0]
  refine and_congr_right fun h0 => ⟨fun ⟨e, he, h1, h2⟩ => ?_, fun ⟨e, he, h1, h2⟩ => ?_⟩
  · have h3 : surely ws e = true := by
      unfold surely
      rw [h2]
      have : 0 < ws.length := by
        cases ws with
        | nil => simp [nsOf] at h0
        | cons _ _ => simp
      simp [this]
    exact ⟨upE d e, List.mem_map.2 ⟨e, List.mem_reverse.2 (List.mem_filter.2 ⟨he, h3⟩), rfl⟩, h1, by rw [sureB_up]; exact h2⟩
  · obtain ⟨f, hf, rfl⟩ := List.mem_map.1 he
    rw [sureB_up] at h2
    exact ⟨f, (List.mem_filter.1 (List.mem_reverse.1 hf)).1, h1, h2⟩
theorem hide_same {ws : List NsC} {es : List EvC} {d : Int} {o o2 : List Sight} {es2 : List EvC} {ws2 : List NsC} (h : Seen (evsOf es) (nsOf ws) o) (he : evsOf es2 = hideE ws d es) (hw : nsOf ws2 = hideW d ws) (k : Seen (evsOf es2) (nsOf ws2) o2) : o2 = o := by
  rw [he, hw] at k
  exact seen_ext k (hide_seen h)
theorem up_i64 {d : Int} {ns : List Int} (h : ∀ n ∈ ns, 0 ≤ n ∧ n ≤ 1000000) (h0 : 0 ≤ d) (h1 : d ≤ 65535) : ∀ n ∈ up d ns, I64 n := by
  intro n hn
  obtain ⟨m, hm, rfl⟩ := List.mem_map.1 hn
  have := h m hm
  unfold I64; omega
theorem all_snoc {ns : List Int} {k : Nat} (hk : k < ns.length) (h : ∀ n ∈ ns.take k, 0 ≤ n ∧ n ≤ 1000000) (h0 : 0 ≤ ns[k]) (h1 : ns[k] ≤ 1000000) : ∀ n ∈ ns.take (k + 1), 0 ≤ n ∧ n ≤ 1000000 := by
  intro n hn
  rw [List.take_succ_eq_append_getElem hk] at hn
  rcases List.mem_append.1 hn with hn | hn
  · exact h n hn
  · rw [List.mem_singleton.1 hn]; exact ⟨h0, h1⟩
end Go.Proofs.Ytpmogdddngbneaa
