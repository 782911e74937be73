/-
  Tables of numbers that are built row by row, each row in a block of its own; one number of them set.
-/
import Derived.Test.YtjpabeoflhkfkaaGreatDoorWarWeak
import Derived.Test.YtjpabeoflhkfkaaGreatDoorWarOwn
namespace Go.Proofs.YtjpabeoflhkfkaaGreatDoor
open Go.RowKit

def blk (A : Option Addr) : Nat := match A with | some a => a.block | none => 0
/-- A row of numbers in a block of its own; a list of such rows in a block. -/
def RowB (W : World) (B : Nat) (r : NsC) : Prop := ∃ g cs, r.A = some ⟨g, 0, none⟩ ∧ B ≤ g ∧ W.heap[g]? = some (.cells cs 3 (0, 0)) ∧ Rd W (some ⟨g, 0, none⟩) (r.ns.map iV)
def DayB (W : World) (B : Nat) (x : DaC) : Prop := (∃ g cs, x.A = some ⟨g, 0, none⟩ ∧ B ≤ g ∧ W.heap[g]? = some (.cells cs 25 (0, 0)) ∧ Rd W (some ⟨g, 0, none⟩) (x.rows.map slI)) ∧ ∀ r ∈ x.rows, RowB W B r
/-- The blocks of rows increase. -/
def Incr (l : List NsC) : Prop := l.Pairwise fun a b => blk a.A < blk b.A
theorem rd_grown {W W' : World} {g : Nat} {xs : List Value} {row : Option Nat} {o : Obj} (hr : Rd W (some ⟨g, 0, none⟩) xs) (ho : W.heap[g]? = some o) (hg : W.grownBy W' row) (hne : some g ≠ row) : W'.heap[g]? = some o ∧ Rd W' (some ⟨g, 0, none⟩) xs :=
  ⟨(hg.block g (block_lt ho) hne).trans ho, hr.same hg.size (fun a ha _ => by cases ha; exact hg.block g (block_lt ho) hne)⟩
theorem RowB.grown {W W' : World} {B : Nat} {r : NsC} {row : Option Nat} (h : RowB W B r) (hg : W.grownBy W' row) (hne : ∀ j cs, row = some j → W.heap[j]? ≠ some (.cells cs 3 (0, 0))) : RowB W' B r := by
  obtain ⟨g, cs, h1, h2, h3, h4⟩ := h
  obtain ⟨a, b⟩ := rd_grown h4 h3 hg (fun e => hne g cs e.symm h3)
  exact ⟨g, cs, h1, h2, a, b⟩
theorem DayB.grown {W W' : World} {B : Nat} {x : DaC} {row : Option Nat} (h : DayB W B x) (hg : W.grownBy W' row) (hne : ∀ j cs, row = some j → W.heap[j]? ≠ some (.cells cs 3 (0, 0)) ∧ W.heap[j]? ≠ some (.cells cs 25 (0, 0))) : DayB W' B x := by
  obtain ⟨⟨g, cs, h1, h2, h3, h4⟩, h5⟩ := h
  obtain ⟨a, b⟩ := rd_grown h4 h3 hg (fun e => (hne g cs e.symm).2 h3)
  exact ⟨⟨g, cs, h1, h2, a, b⟩, fun r hr => (h5 r hr).grown hg (fun j cs e => (hne j cs e).1)⟩
theorem RowB.below {W W' : World} {B : Nat} {r : NsC} (h : RowB W B r) (hb : Below W.heap.size W W') : RowB W' B r := h.grown (grown_of_below hb none) (fun _ _ e => by cases e)
theorem DayB.below {W W' : World} {B : Nat} {x : DaC} (h : DayB W B x) (hb : Below W.heap.size W W') : DayB W' B x := h.grown (grown_of_below hb none) (fun _ _ e => by cases e)
theorem RowB.lt {W : World} {B : Nat} {r : NsC} (h : RowB W B r) : B ≤ blk r.A ∧ blk r.A < W.heap.size := by
  obtain ⟨g, cs, h1, h2, h3, -⟩ := h
  rw [h1]
  exact ⟨h2, block_lt h3⟩
theorem RowB.mono {W : World} {B B' : Nat} {r : NsC} (h : RowB W B r) (hb : B' ≤ B) : RowB W B' r := by
  obtain ⟨g, cs, h1, h2, h3⟩ := h
  exact ⟨g, cs, h1, by omega, h3⟩
theorem DayB.mono {W : World} {B B' : Nat} {x : DaC} (h : DayB W B x) (hb : B' ≤ B) : DayB W B' x := by
  obtain ⟨⟨g, cs, h1, h2, h3⟩, h4⟩ := h
  exact ⟨⟨g, cs, h1, by omega, h3⟩, fun r hr => (h4 r hr).mono hb⟩
theorem own_not {W : World} {base : Nat} {t : TypeId} {v : Value} {k : Nat} {xs : List Value} {e : TypeId} {s : Nat} (h : W.ownsRow base e s v k xs) (ht : e ≠ t) : ∀ j cs, v.ownBlock = some j → W.heap[j]? ≠ some (.cells cs t (0, 0)) := by
  intro j cs hj hc
  rcases h.2 with ⟨rfl, -⟩ | ⟨g, cap, cur, rfl, -, h2, -⟩
  · cases hj
  · cases hj
    rw [h2] at hc
    cases hc
    exact ht rfl
theorem row_new {W : World} {B : Nat} {v : Value} {k : Nat} {ns : List Int} (h : W.ownsRow B 3 1 v k (ns.map iV)) (hk : 0 < k) : ∃ r : NsC, r.ns = ns ∧ v = .slice r.A k r.c ∧ RowB W B r := by
  obtain ⟨g, cap, rfl, h1, -, h3, cs, h4⟩ := own_rd h hk
  exact ⟨⟨ns, some ⟨g, 0, none⟩, cap⟩, rfl, rfl, g, cs, rfl, h1, h4, h3⟩
theorem day_new {W : World} {B : Nat} {v : Value} {k : Nat} {rows : List NsC} (h : W.ownsRow B 25 1 v k (rows.map slI)) (hk : 0 < k) (hr : ∀ r ∈ rows, RowB W B r) : ∃ x : DaC, x.rows = rows ∧ v = .slice x.A k x.c ∧ DayB W B x := by
  obtain ⟨g, cap, rfl, h1, -, h3, cs, h4⟩ := own_rd h hk
  exact ⟨⟨rows, some ⟨g, 0, none⟩, cap⟩, rfl, rfl, ⟨g, cs, rfl, h1, h4, h3⟩, hr⟩
theorem incr_app {l : List NsC} {m : List NsC} {B : Nat} (hl : Incr l) (hm : Incr m) (h1 : ∀ r ∈ l, blk r.A < B) (h2 : ∀ r ∈ m, B ≤ blk r.A) : Incr (l ++ m) :=
  List.pairwise_append.2 ⟨hl, hm, fun a ha b hb => by have := h1 a ha; have := h2 b hb; omega⟩
theorem pw_get {α : Type} {R : α → α → Prop} {l : List α} (h : l.Pairwise R) {i j : Nat} {a b : α} (ha : l[i]? = some a) (hb : l[j]? = some b) (hij : i < j) : R a b := by
  obtain ⟨hi, rfl⟩ := List.getElem?_eq_some_iff.1 ha
  obtain ⟨hj, rfl⟩ := List.getElem?_eq_some_iff.1 hb
  exact List.pairwise_iff_getElem.1 h i j hi hj hij
theorem incr_ne {es : List DaC} (h : Incr (es.flatMap (·.rows))) {k k' o o' : Nat} {x x' : DaC} {r r' : NsC} (h1 : es[k]? = some x) (h2 : x.rows[o]? = some r) (h3 : es[k']? = some x') (h4 : x'.rows[o']? = some r') (hne : k = k' → o ≠ o') : blk r.A ≠ blk r'.A := by
  obtain ⟨ha, hb⟩ := List.pairwise_flatMap.1 h
  rcases Nat.lt_trichotomy k k' with hk | hk | hk
  · have := pw_get hb h1 h3 hk r (List.mem_of_getElem? h2) r' (List.mem_of_getElem? h4)
    omega
  · subst hk
    rw [h1] at h3
    cases h3
    have hp := ha x (List.mem_of_getElem? h1)
    rcases Nat.lt_trichotomy o o' with ho | ho | ho
    · have := pw_get hp h2 h4 ho
      omega
    · exact absurd ho (hne rfl)
    · have := pw_get hp h4 h2 ho
      omega
  · have := pw_get hb h3 h1 hk r' (List.mem_of_getElem? h4) r (List.mem_of_getElem? h2)
    omega
/-- A table in blocks of its own. -/
structure TabB (W : World) (B G : Nat) (es : List DaC) : Prop where
  blk : ∃ cs, W.heap[G]? = some (.cells cs 37 (0, 0))
  ge : B ≤ G
  rd : Rd W (some ⟨G, 0, none⟩) (es.map slD)
  day : ∀ x ∈ es, DayB W B x
  up : Incr (es.flatMap (·.rows))
theorem TabB.dtab {W : World} {B G : Nat} {es : List DaC} (h : TabB W B G es) (hv : ∀ x ∈ es, x.rows.length ≤ 1000000 ∧ ∀ r ∈ x.rows, (∀ y ∈ r.ns, I64 y) ∧ r.ns.length ≤ maxLen) : DTab W (some ⟨G, 0, none⟩) es := by
  refine ⟨h.rd, fun x hx => ⟨⟨?_, fun r hr => ⟨?_, (hv x hx).2 r hr⟩⟩, (hv x hx).1⟩⟩
  · obtain ⟨⟨g, cs, h1, -, -, h4⟩, -⟩ := h.day x hx
    rw [h1]
    exact h4
  · obtain ⟨g, cs, h1, -, -, h4⟩ := (h.day x hx).2 r hr
    rw [h1]
    exact h4
theorem TabB.below {W W' : World} {B G : Nat} {es : List DaC} (h : TabB W B G es) (hb : Below W.heap.size W W') : TabB W' B G es := by
  obtain ⟨cs, h1⟩ := h.blk
  exact ⟨⟨cs, (hb.block _ (block_lt h1)).trans h1⟩, h.ge, h.rd.below hb, fun x hx => (h.day x hx).below hb, h.up⟩
/-- One number of a table set. -/
def setN (es : List DaC) (k o d : Nat) (v : Int) (x : DaC) (r : NsC) : List DaC := es.set k { x with rows := x.rows.set o { r with ns := r.ns.set d v } }
theorem map_set_same {α β : Type} {f : α → β} {l : List α} {k : Nat} {x y : α} (hx : l[k]? = some x) (e : f y = f x) : (l.set k y).map f = l.map f := by
  apply List.ext_getElem?
  intro i
  rw [List.getElem?_map, List.getElem?_map, List.getElem?_set]
  by_cases hik : k = i
  · subst hik
    have hk := (List.getElem?_eq_some_iff.1 hx).1
    rw [if_pos rfl, if_pos hk, hx]
    simp [e]
  · rw [if_neg hik]
theorem set_get {α : Type} {l : List α} {k i : Nat} {x y z : α} (hx : l[k]? = some x) (h : (l.set k y)[i]? = some z) : (i = k ∧ z = y) ∨ (i ≠ k ∧ l[i]? = some z) := by
  rw [List.getElem?_set] at h
  by_cases hik : k = i
  · subst hik
    have hk := (List.getElem?_eq_some_iff.1 hx).1
    rw [if_pos rfl, if_pos hk] at h
    exact .inl ⟨rfl, (Option.some.inj h).symm⟩
  · rw [if_neg hik] at h
    exact .inr ⟨fun e => hik e.symm, h⟩
theorem set_at {α : Type} {l : List α} {k : Nat} {x : α} (hx : l[k]? = some x) (y : α) : (l.set k y)[k]? = some y := by
  have hk := (List.getElem?_eq_some_iff.1 hx).1
  rw [List.getElem?_set, if_pos rfl, if_pos hk]
theorem setN_set {es : List DaC} {k o d : Nat} {v y : Int} {x : DaC} {r : NsC} (h1 : es[k]? = some x) (h2 : x.rows[o]? = some r) (h3 : r.ns[d]? = some y) : SetAt es (setN es k o d v x r) k o d v := by
  refine ⟨⟨_, _, set_at h1 _, set_at h2 _, set_at h3 _⟩, fun k' o' d' z h => ?_⟩
  obtain ⟨x', r', a1, a2, a3⟩ := h
  rcases set_get h1 a1 with ⟨rfl, rfl⟩ | ⟨-, b1⟩
  · rcases set_get h2 a2 with ⟨rfl, rfl⟩ | ⟨-, b2⟩
    · rcases set_get h3 a3 with ⟨rfl, rfl⟩ | ⟨-, b3⟩
      · exact .inl ⟨rfl, rfl, rfl, rfl⟩
      · exact .inr ⟨x, r, h1, h2, b3⟩
    · exact .inr ⟨x, r', h1, b2, a3⟩
  · exact .inr ⟨x', r', b1, a2, a3⟩
theorem TabB.set {W : World} {B G : Nat} {es : List DaC} (h : TabB W B G es) {k o d : Nat} {v y : Int} {x : DaC} {r : NsC} (h1 : es[k]? = some x) (h2 : x.rows[o]? = some r) (h3 : r.ns[d]? = some y) {g : Nat} (hg : r.A = some ⟨g, 0, none⟩)
    (hv : ∀ x ∈ es, x.rows.length ≤ 1000000 ∧ ∀ r ∈ x.rows, (∀ y ∈ r.ns, I64 y) ∧ r.ns.length ≤ maxLen) (hi : I64 v) : DTab (W.setCell ⟨g, d, none⟩ (iV v)) (some ⟨G, 0, none⟩) (setN es k o d v x r) := by
  obtain ⟨gr, cs, e1, -, e3, e4⟩ := (h.day x (List.mem_of_getElem? h1)).2 r (List.mem_of_getElem? h2)
  obtain rfl : gr = g := by rw [hg] at e1; cases e1; rfl
  obtain ⟨cG, hG⟩ := h.blk
  have hoth : ∀ (j : Nat) (xs : List Value), j ≠ gr → Rd W (some ⟨j, 0, none⟩) xs → Rd (W.setCell ⟨gr, d, none⟩ (iV v)) (some ⟨j, 0, none⟩) xs := fun j xs hj hr => hr.same (by simp) (fun a ha _ => Below.heap_setCell _ _ _ _ (by cases ha; exact hj))
  have hty : ∀ (j : Nat) (cs' : Array Value) (t : TypeId), t ≠ 3 → W.heap[j]? = some (.cells cs' t (0, 0)) → j ≠ gr := fun j cs' t ht hj e => by
    subst e
    rw [e3] at hj
    cases hj
    exact ht rfl
  have hrow : ∀ (k' o' : Nat) (x' : DaC) (r' : NsC), es[k']? = some x' → x'.rows[o']? = some r' → (k = k' → o ≠ o') → Rd (W.setCell ⟨gr, d, none⟩ (iV v)) r'.A (r'.ns.map iV) := fun k' o' x' r' a1 a2 hne => by
    obtain ⟨g', cs', f1, -, f3, f4⟩ := (h.day x' (List.mem_of_getElem? a1)).2 r' (List.mem_of_getElem? a2)
    have := incr_ne h.up h1 h2 a1 a2 hne
    rw [e1, f1] at this
    rw [f1]
    exact hoth g' _ (fun e => this e.symm) f4
  refine ⟨?_, fun x' hx' => ?_⟩
  · unfold setN
    rw [map_set_same h1 (by simp [slD])]
    exact hoth G _ (hty G cG _ (by decide) hG) h.rd
  · obtain ⟨k', hk'⟩ := mem_get hx'
    rcases set_get h1 hk' with ⟨rfl, rfl⟩ | ⟨hkk, hk2⟩
    · obtain ⟨⟨gx, cx, f1, -, f3, f4⟩, -⟩ := h.day x (List.mem_of_getElem? h1)
      obtain ⟨v1, v2⟩ := hv x (List.mem_of_getElem? h1)
      refine ⟨⟨?_, fun r' hr' => ?_⟩, by simpa using v1⟩
      · show Rd _ x.A (List.map slI (x.rows.set o _))
        rw [map_set_same h2 (by simp [slI]), f1]
        exact hoth gx _ (hty gx cx _ (by decide) f3) f4
      · obtain ⟨o', ho'⟩ := mem_get hr'
        rcases set_get h2 ho' with ⟨rfl, rfl⟩ | ⟨hoo, ho2⟩
        · obtain ⟨w1, w2⟩ := v2 r (List.mem_of_getElem? h2)
          refine ⟨?_, fun z hz => ?_, by simpa using w2⟩
          · show Rd _ r.A _
            rw [e1]
            exact rd_set e4 (List.getElem?_eq_some_iff.1 h3).1
          · rcases List.mem_or_eq_of_mem_set hz with hz | rfl
            · exact w1 z hz
            · exact hi
        · obtain ⟨w1, w2⟩ := v2 r' (List.mem_of_getElem? ho2)
          exact ⟨hrow _ _ _ _ h1 ho2 (fun _ e => hoo e.symm), w1, w2⟩
    · obtain ⟨⟨gx, cx, f1, -, f3, f4⟩, -⟩ := h.day x' (List.mem_of_getElem? hk2)
      obtain ⟨v1, v2⟩ := hv x' (List.mem_of_getElem? hk2)
      refine ⟨⟨?_, fun r' hr' => ?_⟩, v1⟩
      · rw [f1]
        exact hoth gx _ (hty gx cx _ (by decide) f3) f4
      · obtain ⟨o', ho'⟩ := mem_get hr'
        obtain ⟨w1, w2⟩ := v2 r' hr'
        exact ⟨hrow _ _ _ _ hk2 ho' (fun e => absurd e.symm hkk), w1, w2⟩
end Go.Proofs.YtjpabeoflhkfkaaGreatDoor
