/-
  Distances between offices in plain Lean: the survey's relaxation is exact. What holds of items all the time, in plain Lean. Where an item is, the way of an item alone, labels without exchanges: in plain Lean. The walk over survey.Distances.
-/
import Derived.Test.YtpeaiphdkgifaaaGreatDoorWbp
import Derived.Test.YtpeaiphdkgifaaaGreatDoorWaa
import Derived.Test.YtpeaiphdkgifaaaGreatDoorWba
import Derived.Test.YtpeaiphdkgifaaaGreatDoorWbc
import Derived.Test.YtpeaiphdkgifaaaGreatDoorWam
import Derived.Test.YtpeaiphdkgifaaaGreatDoorWat
namespace Go.Proofs.YtpeaiphdkgifaaaGreatDoor
open Go.RowKit
set_option maxHeartbeats 20000000
set_option maxRecDepth 100000
theorem Pk.nonneg {es : List (Nat × Nat × Int)} {B : Int} (he : EdgesIn es B) {k a b : Nat} {L : Int} (h : Pk es k a b L) : 0 <= L := by
 obtain ⟨X, h1, h2⟩ := h
 have := h2.nonneg he
 omega
theorem path_last {n : Net} : ∀ {l : List St} {es : List (List UInt8)}, PathOk n l es -> (lastSt l).depart = -1 /\ (lastSt l).line = -1
 | [_], [], h => h
 | _ :: b :: l, _ :: es, h => by
  have := path_last h.2
  simpa [lastSt] using this
theorem path_get {n : Net} : ∀ {l : List St} {es : List (List UInt8)} {m : Nat} {a b : St}, PathOk n l es -> l[m]? = some a -> l[m + 1]? = some b -> ∃ e, es[m]? = some e /\ Hop n a b e
 | [_], [], m, a, b, h, h1, h2 => by simp at h2
 | x :: y :: l, e :: es, 0, a, b, h, h1, h2 => by
  simp at h1 h2
  subst h1 h2
  exact ⟨e, rfl, h.1⟩
 | x :: y :: l, e :: es, m + 1, a, b, h, h1, h2 => by
  simp only [List.getElem?_cons_succ] at h1 h2 ⊢
  exact path_get h.2 h1 h2
theorem spotR_cases (l : List St) (t : Int) :
  (spotR l t = none /\ ∀ s ∈ l, t < s.arrive) ∨ ∃ (i : Nat) (s : St), l[i]? = some s /\ s.arrive <= t /\ (∀ u : St, l[i + 1]? = some u -> t < u.arrive) /\ spotR l t = if s.depart = -1 ∨ t <= s.depart then some (s.office, -1) else some (-1, s.line) := by
 have gen : ∀ m : List St, (spotF t m = none /\ ∀ s ∈ m, t < s.arrive) ∨ ∃ (i : Nat) (s : St), m[i]? = some s /\ s.arrive <= t /\ (∀ j < i, ∀ u : St, m[j]? = some u -> t < u.arrive) /\ spotF t m = if s.depart = -1 ∨ t <= s.depart then some (s.office, -1) else some (-1, s.line) := by
  intro m
  induction m with
  | nil => exact .inl ⟨rfl, fun s hs => by cases hs⟩
  | cons s m ih =>
   unfold spotF
   by_cases h1 : t < s.arrive
   ·rw [if_pos h1]
    rcases ih with ⟨a, b⟩ | ⟨i, u, a, b, c, d⟩
    ·refine .inl ⟨a, fun x hx => ?_⟩
     rcases List.mem_cons.1 hx with rfl | hx
     ·exact h1
     ·exact b x hx
    ·refine .inr ⟨i + 1, u, a, b, fun j hj x hx => ?_, d⟩
     cases j with
     | zero => simp at hx; subst hx; exact h1
     | succ j => exact c j (by omega) x hx
   ·rw [if_neg h1]
    exact .inr ⟨0, s, rfl, by omega, fun j hj => by omega, rfl⟩
 rcases gen l.reverse with ⟨a, b⟩ | ⟨i, s, a, b, c, d⟩
 ·exact .inl ⟨a, fun s hs => b s (List.mem_reverse.2 hs)⟩
 ·have hi : i < l.length := by have := (List.getElem?_eq_some_iff.1 a).1; simpa using this
  rw [List.getElem?_reverse hi] at a
  refine .inr ⟨l.length - 1 - i, s, a, b, fun u hu => ?_, d⟩
  have hlt := (List.getElem?_eq_some_iff.1 hu).1
  refine c (i - 1) (by omega) u ?_
  rw [List.getElem?_reverse (by omega), show l.length - 1 - (i - 1) = l.length - 1 - i + 1 by omega]
  exact hu
theorem hop_arr {n : Net} (hG : Good n) {a b : St} {e : List UInt8} (h : Hop n a b e) (ho : 0 <= a.office /\ a.office < n.offs.length) : a.arrive <= a.depart /\ a.depart < b.arrive := by
 have hO := hG.off _ (List.mem_of_getElem? (offAt_get (n := n) (o := a.office.toNat) (by omega)))
 have hL := hG.lin _ (List.mem_of_getElem? (linAt_get (n := n) (l := a.line.toNat) (by have := h.line; omega)))
 have h1 := h.ready
 have h2 := h.arr
 unfold readyR at h1
 have : 0 <= (offAt n a.office.toNat).passes * (offAt n a.office.toNat).minutes := Int.mul_nonneg (by omega) (by omega)
 omega
theorem path_arr {n : Net} (hG : Good n) {l : List St} {es : List (List UInt8)} (h : PathOk n l es) (ho : ∀ s ∈ l, 0 <= s.office /\ s.office < n.offs.length) : ∀ (k i : Nat) {a b : St}, l[i]? = some a -> l[i + k]? = some b -> a.arrive <= b.arrive
 | 0, i, a, b, h1, h2 => by
  rw [Nat.add_zero, h1] at h2
  cases h2
  exact Int.le_refl _
 | k + 1, i, a, b, h1, h2 => by
  obtain ⟨c, hc⟩ : ∃ c, l[i + 1]? = some c := ⟨_, List.getElem?_eq_getElem (by have := (List.getElem?_eq_some_iff.1 h2).1; omega)⟩
  obtain ⟨e, -, hh⟩ := path_get h h1 hc
  have h3 := hop_arr hG hh (ho a (List.mem_of_getElem? h1))
  have h4 := path_arr hG h ho k (i + 1) hc (by rw [show i + 1 + k = i + (k + 1) by omega]; exact h2)
  omega
theorem path_walk {n : Net} (hG : Good n) {l : List St} {es : List (List UInt8)} (h : PathOk n l es) (ho : ∀ s ∈ l, 0 <= s.office /\ s.office < n.offs.length) : ∀ (k i : Nat) {a b : St}, l[i]? = some a -> l[i + k + 1]? = some b -> ∃ L, Wlk (edgesOf n) a.office.toNat b.office.toNat L /\ L <= b.arrive - a.depart
 | 0, i, a, b, h1, h2 => by
  obtain ⟨e, -, hh⟩ := path_get h h1 h2
  refine ⟨(linAt n a.line.toNat).travel + 0, .cons (b := b.office.toNat) ?_ (.nil _), by have := hh.arr; omega⟩
  have hm := List.mem_of_getElem? (linAt_get (n := n) (l := a.line.toNat) (by have := hh.line; omega))
  exact List.mem_map.2 ⟨_, hm, by rw [hh.frm, hh.off]⟩
 | k + 1, i, a, b, h1, h2 => by
  obtain ⟨c, hc⟩ : ∃ c, l[i + 1]? = some c := ⟨_, List.getElem?_eq_getElem (by have := (List.getElem?_eq_some_iff.1 h2).1; omega)⟩
  obtain ⟨e, -, hh⟩ := path_get h h1 hc
  obtain ⟨L, hw, hL⟩ := path_walk hG h ho k (i + 1) hc (by rw [show i + 1 + k + 1 = i + (k + 1) + 1 by omega]; exact h2)
  refine ⟨(linAt n a.line.toNat).travel + L, .cons (b := c.office.toNat) ?_ hw, ?_⟩
  ·have hm := List.mem_of_getElem? (linAt_get (n := n) (l := a.line.toNat) (by have := hh.line; omega))
   exact List.mem_map.2 ⟨_, hm, by rw [hh.frm, hh.off]⟩
  ·have h3 := hh.arr
   obtain ⟨d, hd⟩ : ∃ d, l[i + 2]? = some d := ⟨_, List.getElem?_eq_getElem (by have := (List.getElem?_eq_some_iff.1 h2).1; omega)⟩
   obtain ⟨e2, -, hh2⟩ := path_get h hc hd
   have := hop_arr hG hh2 (ho c (List.mem_of_getElem? hc))
   omega
theorem lins_in {n : Net} (hG : Good n) : LinsIn n := fun l hl => by
 have h1 := hG.lin l hl
 have h2 := hG.few.2.1
 exact ⟨h1.1.1, by omega, h1.2.1.1, by omega, by omega, by omega⟩
theorem spots_end {n : Net} (hG : Good n) {it : Itm} (hi : ItOk n it) (a : Int) :
  (spotR it.stops a ≠ none ↔ it.post.acc <= a) /\
  (∀ x, spotR it.stops a = some x -> (x.2 = -1 /\ ∃ s : St, s ∈ it.stops /\ x.1 = s.office /\ s.arrive <= a /\ (s.depart = -1 ∨ a <= s.depart)) ∨ (x.1 = -1 /\ ∃ (i : Nat) (s u : St), it.stops[i]? = some s /\ it.stops[i + 1]? = some u /\ x.2 = s.line /\ s.depart < a /\ a < u.arrive)) /\
  (∀ b x y, a <= b -> spotR it.stops a = some x -> spotR it.stops b = some y -> 0 <= x.1 -> 0 <= y.1 -> x.1 < n.offs.length /\ y.1 < n.offs.length /\ 0 <= distM (edgesOf n) x.1.toNat y.1.toNat /\ distM (edgesOf n) x.1.toNat y.1.toNat <= b - a) := by
 have ho : ∀ s ∈ it.stops, 0 <= s.office /\ s.office < n.offs.length := fun s hs => ⟨(hi.offs s hs).1, (hi.offs s hs).2.1⟩
 have hlast : ∀ i s, it.stops[i]? = some s -> (s.depart = -1 ↔ i + 1 = it.stops.length) /\ (s.depart ≠ -1 -> 0 <= s.depart) := fun i s hs => by
  have hlt := (List.getElem?_eq_some_iff.1 hs).1
  by_cases hl : i + 1 = it.stops.length
  ·have h1 := path_last hi.path
   have : s = lastSt it.stops := by
    have h2 := snoc_of (path_ne hi.path)
    rw [h2, List.getElem?_append_right (by rw [List.length_dropLast]; omega)] at hs
    have h3 : i - it.stops.dropLast.length = 0 := by rw [List.length_dropLast]; omega
    rw [h3] at hs
    simp at hs
    exact hs.symm
   rw [this]
   exact ⟨⟨fun _ => hl, fun _ => h1.1⟩, fun h => absurd h1.1 h⟩
  ·obtain ⟨u, hu⟩ : ∃ u, it.stops[i + 1]? = some u := ⟨_, List.getElem?_eq_getElem (by omega)⟩
   obtain ⟨e, -, hh⟩ := path_get hi.path hs hu
   have := hh.dep
   exact ⟨⟨fun h => by omega, fun h => absurd h hl⟩, fun _ => this.1⟩
 have hacc : ∀ s ∈ it.stops, it.post.acc <= s.arrive := fun s hs => by
  obtain ⟨s0, l, e1, e2, e3⟩ := hi.head
  obtain ⟨i, hi2⟩ := List.getElem?_of_mem hs
  have := path_arr hG hi.path ho i 0 (a := s0) (b := s) (by rw [e1]; rfl) (by rw [Nat.zero_add]; exact hi2)
  omega
 refine ⟨⟨fun h => ?_, fun h => ?_⟩, fun x hx => ?_, fun b x y hab hx hy hx0 hy0 => ?_⟩
 ·rcases spotR_cases it.stops a with ⟨e, -⟩ | ⟨i, s, h1, h2, -⟩
  ·exact absurd e h
  ·have := hacc s (List.mem_of_getElem? h1)
   omega
 ·rcases spotR_cases it.stops a with ⟨e, h1⟩ | ⟨i, s, h1, h2, h3, h4⟩
  ·obtain ⟨s0, l, e1, e2, e3⟩ := hi.head
   have := h1 s0 (by rw [e1]; exact List.mem_cons_self ..)
   omega
  ·rw [h4]
   split <;> simp
 ·rcases spotR_cases it.stops a with ⟨e, h1⟩ | ⟨i, s, h1, h2, h3, h4⟩
  ·rw [e] at hx; cases hx
  ·rw [h4] at hx
   split at hx
   ·rename_i g
    cases hx
    exact .inl ⟨rfl, s, List.mem_of_getElem? h1, rfl, h2, g⟩
   ·rename_i g
    cases hx
    have hl := hlast i s h1
    have hlt := (List.getElem?_eq_some_iff.1 h1).1
    obtain ⟨u, hu⟩ : ∃ u, it.stops[i + 1]? = some u := ⟨_, List.getElem?_eq_getElem (by
     have : ¬ (i + 1 = it.stops.length) := fun e => g (.inl (hl.1.2 e))
     omega)⟩
    exact .inr ⟨rfl, i, s, u, h1, hu, rfl, by
     have : ¬ a <= s.depart := fun e => g (.inr e)
     omega, h3 u hu⟩
 ·rcases spotR_cases it.stops a with ⟨e, h1⟩ | ⟨i, s, h1, h2, h3, h4⟩
  ·rw [e] at hx; cases hx
  rcases spotR_cases it.stops b with ⟨e, k1⟩ | ⟨j, u, k1, k2, k3, k4⟩
  ·rw [e] at hy; cases hy
  rw [h4] at hx
  rw [k4] at hy
  split at hx
  case isFalse => cases hx; exact absurd (show (0 : Int) <= -1 from hx0) (by decide)
  split at hy
  case isFalse => cases hy; exact absurd (show (0 : Int) <= -1 from hy0) (by decide)
  rename_i g1 g2
  cases hx
  cases hy
  have hs := ho s (List.mem_of_getElem? h1)
  have hu := ho u (List.mem_of_getElem? k1)
  have hf := hG.few.2.1
  refine ⟨hs.2, hu.2, ?_⟩
  have fin : ∀ L, Wlk (edgesOf n) s.office.toNat u.office.toNat L -> L <= b - a -> 0 <= distM (edgesOf n) s.office.toNat u.office.toNat /\ distM (edgesOf n) s.office.toNat u.office.toNat <= b - a := fun L hw hL => by
   have he := edges_in (lins_in hG)
   have h5 := dist_le (by omega) he (show s.office.toNat < 12 by omega) (show u.office.toNat < 12 by omega) hw
   have h6 := ((dist_walk (B := 5000) (by omega) he h5.1).pk he).nonneg he
   omega
  -- the later stop is not an earlier one
  have hij : i <= j := by
   by_cases h : i <= j
   ·exact h
   ·exfalso
    obtain ⟨v, hv⟩ : ∃ v, it.stops[j + 1]? = some v := ⟨_, List.getElem?_eq_getElem (by have := (List.getElem?_eq_some_iff.1 h1).1; omega)⟩
    have h7 := k3 v hv
    have h8 := path_arr hG hi.path ho (i - (j + 1)) (j + 1) hv (by rw [show j + 1 + (i - (j + 1)) = i by omega]; exact h1)
    omega
  by_cases hij2 : i = j
  ·subst hij2
   rw [h1] at k1
   cases k1
   exact fin 0 (.nil _) (by omega)
  ·obtain ⟨L, hw, hL⟩ := path_walk hG hi.path ho (j - i - 1) i h1 (by rw [show i + (j - i - 1) + 1 = j by omega]; exact k1)
   have hd : s.depart ≠ -1 := fun e => by
    have := (hlast i s h1).1.1 e
    have := (List.getElem?_eq_some_iff.1 k1).1
    omega
   have : a <= s.depart := by
    rcases g1 with g1 | g1
    ·exact absurd g1 hd
    ·exact g1
   exact fin L hw (by omega)
def DistW (w : World) (n : Net) (e : Ending) (w' : World) : Prop :=
 ∃ g xs, e = .returned (.slice (some ⟨g, 0, none⟩) n.offs.length n.offs.length) /\ Rd w' (some ⟨g, 0, none⟩) xs /\ xs.length = n.offs.length /\ (∀ a < n.offs.length, ∃ b, xs[a]? = some (.slice (some ⟨b, 0, none⟩) n.offs.length n.offs.length) /\ ∀ c < n.offs.length, w'.cell? ⟨b, c, none⟩ = some (iV (distM (edgesOf n) a c))) /\ Below w.heap.size w w'
theorem made_ints (N : Nat) : (madeCells (Value.int .i64 0).cells (N * 1)).toList = (List.replicate N (0 : Int)).map iV := by
 rw [Nat.mul_one]
 show (madeCells #[iV 0] N).toList = _
 rw [toList_madeCells_one, List.map_replicate]
theorem rd_at {w : World} {b off i : Nat} {xs : List Value} {u : Value} (h : Rd w (some ⟨b, off, none⟩) xs) (hi : xs[i]? = some u) : w.cell? ⟨b, off + i, none⟩ = some u := by
 obtain ⟨b', off', he, _, hc⟩ := h.get (List.getElem?_eq_some_iff.1 hi).1
 cases he
 exact hc i u hi
theorem own_at {w w' : World} {base size n m c g : Nat} {e : TypeId} {xs : List Value} (h : w.ownsRow base e size (.slice (some ⟨g, 0, none⟩) n c) m xs) (hg : w'.heap[g]? = w.heap[g]?) : w'.ownsRow base e size (.slice (some ⟨g, 0, none⟩) n c) m xs := by
 refine ⟨h.1, ?_⟩
 rcases h.2 with ⟨hv, _⟩ | ⟨g', cap, cur, hv, hb, hgg, rest⟩
 ·cases hv
 ·cases hv
  exact .inr ⟨_, c, cur, rfl, hb, hg.trans hgg, rest⟩
theorem wdist_any (n : Net) (w : World) (hn : NetIn w n) (hk : KW w) (hc : Cons n) :
  Calls Tryz.prog 22 #[netV n] w (DistW w n) := by
 obtain ⟨i0, hi0, hz0, hz1, hz2⟩ := info_parts info_int
 obtain ⟨i1, hi1, hy0, hy1, hy2⟩ := info_parts info_ints
 have hb0 := ba w (netO n)
 have hN12 := hc.off.1
 have hx0 := heap_alloc_new w (netO n)
 have HNP : Hid (NetP (w.alloc (netO n)) w.heap.size n) := ⟨fun i v hv => (cell_of_row _ _ _ _ _ _ hx0).trans hv, hn.below hb0⟩
 have HK := Lib.hid hk
 have HNW := Lib.hid hn
 have HB0 := Lib.hid hb0
 have HC := Lib.hid hc
 have HWL : Hid (w.heap.size + 1 <= (w.alloc (netO n)).heap.size) := block_lt hx0
 clear hn hk hc hb0 hx0
 go_enter Tryz.func22, Tryz.ntmps22
 go_upto_region 1 with fail
 change Code.wp _ _ _ _ (w.alloc (netO n))
 generalize (w.alloc (netO n)) = W at *
 generalize hX : w.heap.size = X at *
 have HX := Lib.hid hX; clear hX
 have HNB : Hid (∀ wr, Below (X + 1) W wr -> Below w.heap.size w wr /\ NetP wr X n) := fun wr hb => box_keep HNW.out HX.out HB0.out HNP.out.box hb
 have n0 : W.cell? ⟨X, 0, none⟩ = some (.slice n.calA n.cals.length n.calC) := HNP.out.box 0 _ rfl
 have n1 : W.cell? ⟨X, 1, none⟩ = some (.slice n.namA n.names.length n.namC) := HNP.out.box 1 _ rfl
 have n2 : W.cell? ⟨X, 2, none⟩ = some (.slice n.opA n.ops.length n.opC) := HNP.out.box 2 _ rfl
 have n3 : W.cell? ⟨X, 3, none⟩ = some (.slice n.offA n.offs.length n.offC) := HNP.out.box 3 _ rfl
 have n4 : W.cell? ⟨X, 4, none⟩ = some (.slice n.linA n.lins.length n.linC) := HNP.out.box 4 _ rfl
 have n5 : W.cell? ⟨X, 5, none⟩ = some (.slice n.clsA n.clss.length n.clsC) := HNP.out.box 5 _ rfl
 go_wp2_with fail
 refine (incon_any n _ HNP.out.net (HK.out.below (HNB.out _ (Below.refl _ _)).1)).mono ?_
 rintro e w1 ⟨A, m, c, xs, rfl, -, -, hm, -, hb⟩
 obtain rfl : m = 0 := hm.2 HC.out
 have HB1 := Lib.hid (hb.mono HWL.out)
 clear hm hb n0 n1 n2 n3 n4 n5
 have n0 : w1.cell? ⟨X, 0, none⟩ = some (.slice n.calA n.cals.length n.calC) := (HNB.out _ HB1.out).2.box 0 _ rfl
 have n1 : w1.cell? ⟨X, 1, none⟩ = some (.slice n.namA n.names.length n.namC) := (HNB.out _ HB1.out).2.box 1 _ rfl
 have n2 : w1.cell? ⟨X, 2, none⟩ = some (.slice n.opA n.ops.length n.opC) := (HNB.out _ HB1.out).2.box 2 _ rfl
 have n3 : w1.cell? ⟨X, 3, none⟩ = some (.slice n.offA n.offs.length n.offC) := (HNB.out _ HB1.out).2.box 3 _ rfl
 have n4 : w1.cell? ⟨X, 4, none⟩ = some (.slice n.linA n.lins.length n.linC) := (HNB.out _ HB1.out).2.box 4 _ rfl
 have n5 : w1.cell? ⟨X, 5, none⟩ = some (.slice n.clsA n.clss.length n.clsC) := (HNB.out _ HB1.out).2.box 5 _ rfl
 go_wp2_with fail
 refine (relaxed_any n _ (HNB.out _ HB1.out).2.net HC.out.lins).mono ?_
 rintro e w2 ⟨cs, rfl, hcs, hcd, hb⟩
 have HS := Lib.hid hcs
 have HD := Lib.hid hcd
 have HB2 : Hid (Below (X + 1) W w2) := HB1.out.trans (hb.mono (Nat.le_trans HWL.out HB1.out.size))
 clear hcs hcd hb HB1 n0 n1 n2 n3 n4 n5
 have hone := mat_one HS.out HD.out
 have HONE := Lib.hid hone; clear hone
 have HSZ : Hid ((Tryz.zeroCells117).size = cs.size) := by show _ = _; rw [zc_eq, HS.out]; simp
 have HSI : Hid ((Tryz.prog.info? 117).map (·.size) = some cs.size) := by show _ = _; rw [HS.out]; exact mat_size
 have hnew := heap_alloc_new w2 (.cells Tryz.zeroCells117 117)
 have HNEW := Lib.hid hnew
 have hrow := setRow_heap (w2.alloc (.cells Tryz.zeroCells117 117)) w2.heap.size _ cs _ (0, 0) hnew
 have HBL : Hid (Blk ((w2.alloc (.cells Tryz.zeroCells117 117)).setRow w2.heap.size cs) w2.heap.size (distM (edgesOf n))) := ⟨cs, hrow, HS.out, HD.out⟩
 have HB3 : Hid (Below (X + 1) W ((w2.alloc (.cells Tryz.zeroCells117 117)).setRow w2.heap.size cs)) := below_grown (HB2.out.alloc (Nat.le_trans HWL.out HB2.out.size) _) (grown_row _ w2.heap.size cs) (Nat.le_trans HWL.out HB2.out.size) (Nat.le_trans HWL.out (Nat.le_trans HB2.out.size (by simp)))
 clear hnew hrow HB2 HS HD
 go_upto_region 4 with (refine wpList_store_row (by rfl) 117 (.tmp 3) (.tmp 12) (by rfl) w2.heap.size cs (by rfl) (by rfl) 117 _ HNEW.out HSI.out HSZ.out HONE.out ?_)
 change Code.wp _ _ _ _ ((w2.alloc (.cells Tryz.zeroCells117 117)).setRow w2.heap.size cs)
 clear HNEW HSZ HSI HONE
 generalize ((w2.alloc (.cells Tryz.zeroCells117 117)).setRow w2.heap.size cs) = W3 at *
 generalize w2.heap.size = Y at *
 have n3 : W3.cell? ⟨X, 3, none⟩ = some (.slice n.offA n.offs.length n.offC) := (HNB.out _ HB3.out).2.box 3 _ rfl
 generalize hN : n.offs.length = N at *
 have HN := Lib.hid hN; clear hN
 generalize hM : distM (edgesOf n) = M at *
 have HM := Lib.hid hM; clear hM
 have HZL : Hid (X + 1 <= W3.heap.size) := Nat.le_trans HWL.out HB3.out.size
 have HYL : Hid (Y < W3.heap.size) := HBL.out.lt
 go_wp2_with (refine wpList_make_full _ (by rfl) (.tmp 15) (.tmp 15) 30 (by rfl) W3.heap.size 46 i1 _ 1 Tryz.underlying30 hi1 hy0 hy1 .i64 .i64 (N : Int) (N : Int) N (by rfl) (by rfl) rfl rfl (by rw [hy2]; omega) (by unfold maxLen; omega) (Nat.le_refl _) ?_; intro w4 ho hg; have HO := Lib.hid ho; have HG := Lib.hid hg; clear ho hg)
 have HB4 : Hid (Below (X + 1) W w4) := HB3.out.trans ((below_none HG.out).mono HZL.out)
 have HBL4 : Hid (Blk w4 Y M) := HBL.out.below (below_none HG.out)
 have hlt4 : W3.heap.size < w4.heap.size := by
  rcases HO.out.2 with ⟨h, _⟩ | ⟨g, cap, cur, h, _, hg, _⟩
  ·cases h
  ·cases h
   exact block_lt hg
 have HL4 := Lib.hid hlt4
 clear hlt4 HBL HB3 HG n3
 generalize W3.heap.size = Z at *
 go_loopw [19] (fun i wr => ∃ (k : Nat) (xs : List Value), k <= N /\ i = iV k /\ Hid (wr.ownsRow Z 46 1 (.slice (some ⟨Z, 0, none⟩) N N) N xs) /\ Hid (∀ j < k, ∃ b, xs[j]? = some (.slice (some ⟨b, 0, none⟩) N N) /\ Z < b /\ b < wr.heap.size /\ ∀ c < N, wr.cell? ⟨b, c, none⟩ = some (iV (M j c))) /\ Hid (Below (X + 1) W wr) /\ Hid (Z < wr.heap.size) /\ Hid (Blk wr Y M)) (fun i _ => 13 - (intOf i).toNat)
 case atStart => exact ⟨0, _, by omega, rfl, HO.out, (fun j hj => by omega), HB4.out, HL4.out, HBL4.out⟩
 case round =>
 clear HO HB4 HL4 HBL4
 obtain ⟨k, xs, hk, rfl, HO, HQ, HB, HL, HBL⟩ := hrel
 have k0 : (0 : Int) <= (k : Int) := by omega
 by_cases hlt : k < N
 case neg =>
  have k1 : ¬ (k : Int) < (N : Int) := by omega
  go_wp2_with fail
  go_ret
  refine ⟨Z, xs, by rw [HN.out]; rfl, rd_own HO.out, by have := HO.out.1; have := HN.out; omega, fun j hj => ?_, (HNB.out _ HB.out).1⟩
  obtain ⟨b, h1, -, -, h2⟩ := HQ.out j (by have := HN.out; omega)
  exact ⟨b, by rw [HN.out]; exact h1, fun c hc => by have h3 := h2 c (by have := HN.out; omega); rw [<- HM.out] at h3; exact h3⟩
 have k1 : (k : Int) < (N : Int) := by omega
 have k2 : (k : Int) < 12 := by omega
 have n3 : wr.cell? ⟨X, 3, none⟩ = some (.slice n.offA N n.offC) := by have h3 : wr.cell? ⟨X, 3, none⟩ = some (.slice n.offA n.offs.length n.offC) := (HNB.out _ HB.out).2.box 3 _ rfl; rwa [HN.out] at h3
 obtain ⟨w0, hw0⟩ : ∃ w0, w0 = wr := ⟨_, rfl⟩
 subst hw0
 have hlen := HO.out.1
 obtain ⟨g, hge, -, -, hfz, hcell⟩ := own_blk HO.out (by omega)
 cases hge
 obtain ⟨z0, hz0'⟩ : ∃ u, xs[k]? = some u := ⟨_, List.getElem?_eq_getElem (by omega)⟩
 have HCK : Hid (∀ w', Below w0.heap.size w0 w' -> w'.cell? ⟨Z, k, none⟩ = some z0 /\ w'.frozen? ⟨Z, k, none⟩ = false) := fun w' hb => ⟨(hb.cell (p := ⟨Z, k, none⟩) HL.out).trans (hcell k _ hz0'), (hb.frozen (p := ⟨Z, k, none⟩) HL.out).trans (hfz k)⟩
 clear hlen hfz hcell hz0'
 go_upto_region 9 with (refine wpList_make_full _ (by rfl) (.tmp 26) (.tmp 26) 46 (by rfl) w0.heap.size 3 i0 _ 1 Tryz.underlying46 hi0 hz0 hz1 .i64 .i64 (N : Int) (N : Int) N (by rfl) (by rfl) rfl rfl (by rw [hz2]; omega) (by unfold maxLen; omega) (Nat.le_refl _) ?_; intro w1 ho hg; have HO1 := Lib.hid ho; have HB1 := Lib.hid (below_none hg); obtain ⟨ck, fk⟩ := HCK.out w1 (below_none hg); clear ho hg)
 have hlt1 : w0.heap.size < w1.heap.size := by
  rcases HO1.out.2 with ⟨h, _⟩ | ⟨g, cap, cur, h, _, hg, _⟩
  ·cases h
  ·cases h
   exact block_lt hg
 have HOX : Hid ((w1.setCell ⟨Z, k, none⟩ (.slice (some ⟨w0.heap.size, 0, none⟩) N N)).ownsRow Z 46 1 (.slice (some ⟨Z, 0, none⟩) N N) N (xs.set k (.slice (some ⟨w0.heap.size, 0, none⟩) N N))) := own_store (own_below HO.out HB1.out) k _
 have hRZ : Z < w0.heap.size := HL.out
 have hhs : ∀ b, b ≠ Z -> (w1.setCell ⟨Z, k, none⟩ (.slice (some ⟨w0.heap.size, 0, none⟩) N N)).heap[b]? = w1.heap[b]? := fun b hb => Below.heap_setCell _ _ _ _ (by show b ≠ Z; exact hb)
 have HOR : Hid ((w1.setCell ⟨Z, k, none⟩ (.slice (some ⟨w0.heap.size, 0, none⟩) N N)).ownsRow w0.heap.size 3 1 (.slice (some ⟨w0.heap.size, 0, none⟩) N N) N _) := own_at HO1.out (hhs _ (by omega))
 have HBX : Hid (Below (X + 1) W (w1.setCell ⟨Z, k, none⟩ (.slice (some ⟨w0.heap.size, 0, none⟩) N N))) := (HB.out.trans (HB1.out.mono (Nat.le_trans HZL.out (Nat.le_of_lt hRZ)))).setCell HZL.out _
 have HXS : Hid (w0.heap.size < (w1.setCell ⟨Z, k, none⟩ (.slice (some ⟨w0.heap.size, 0, none⟩) N N)).heap.size) := by show _ < _; simp; exact hlt1
 have HBLX : Hid (Blk (w1.setCell ⟨Z, k, none⟩ (.slice (some ⟨w0.heap.size, 0, none⟩) N N)) Y M) := by
  obtain ⟨cs, h1, h2, h3⟩ := HBL.out.below HB1.out
  exact ⟨cs, (hhs Y (by have := HYL.out; omega)).trans h1, h2, h3⟩
 have HQX : Hid (∀ j < k, ∃ b, (xs.set k (.slice (some ⟨w0.heap.size, 0, none⟩) N N))[j]? = some (.slice (some ⟨b, 0, none⟩) N N) /\ Z < b /\ b < w0.heap.size /\ ∀ c < N, (w1.setCell ⟨Z, k, none⟩ (.slice (some ⟨w0.heap.size, 0, none⟩) N N)).cell? ⟨b, c, none⟩ = some (iV (M j c))) := fun j hj => by
  obtain ⟨b, h1, h2, h3, h4⟩ := HQ.out j hj
  refine ⟨b, by rw [List.getElem?_set_ne (by omega)]; exact h1, h2, h3, fun c hc => ?_⟩
  rw [World.cell?_of_block (w := w0) (a := ⟨b, c, none⟩) ((hhs b (by omega)).trans (HB1.out.block b h3))]
  exact h4 c hc
 have hxk : (xs.set k (.slice (some ⟨w0.heap.size, 0, none⟩) N N))[k]? = some (.slice (some ⟨w0.heap.size, 0, none⟩) N N) := List.getElem?_set_self (by have := HO.out.1; omega)
 have HXK := Lib.hid hxk
 clear hhs hxk HO HQ HB HBL HCK HO1 HB1 ck fk n3
 change Code.wp _ _ _ _ (w1.setCell ⟨Z, k, none⟩ (.slice (some ⟨w0.heap.size, 0, none⟩) N N))
 generalize (w1.setCell ⟨Z, k, none⟩ (.slice (some ⟨w0.heap.size, 0, none⟩) N N)) = W2 at *
 generalize (xs.set k (.slice (some ⟨w0.heap.size, 0, none⟩) N N)) = us at *
 generalize w0.heap.size = R at *
 have HRZ := Lib.hid hRZ
 have HCZ : Hid (∀ w', Below R W2 w' -> w'.cell? ⟨Z, k, none⟩ = some (.slice (some ⟨R, 0, none⟩) N N)) := fun w' hb => (hb.cell (p := ⟨Z, k, none⟩) HRZ.out).trans (by have := rd_at (rd_own HOX.out) HXK.out; rwa [Nat.zero_add] at this)
 have cz := HCZ.out W2 (Below.refl _ _)
 clear hRZ
 go_wp2_with fail
 clear cz
 go_loopw [34] (fun i wr => ∃ (q : Nat) (ys : List Int), q <= N /\ i = iV q /\ Hid (wr.ownsRow R 3 1 (.slice (some ⟨R, 0, none⟩) N N) N (ys.map iV)) /\ Hid (∀ c < q, ys[c]? = some (M k c)) /\ Hid (Below R W2 wr) /\ Hid (R < wr.heap.size)) (fun i _ => 13 - (intOf i).toNat)
 case atStart => exact ⟨0, List.replicate N 0, by omega, rfl, by rw [<- made_ints]; exact HOR.out, (fun c hc => by omega), Below.refl _ _, HXS.out⟩
 case round =>
 clear HOR HXS
 obtain ⟨q, ys, hq, rfl, HOR, HQR, HBR, HRL⟩ := hrel
 have q0 : (0 : Int) <= (q : Int) := by omega
 have cz := HCZ.out _ HBR.out
 by_cases hqt : q < N
 case neg =>
  have q1 : ¬ (q : Int) < (N : Int) := by omega
  have HQ3 : Hid (∀ j < k + 1, ∃ b, us[j]? = some (.slice (some ⟨b, 0, none⟩) N N) /\ Z < b /\ b < wr.heap.size /\ ∀ c < N, wr.cell? ⟨b, c, none⟩ = some (iV (M j c))) := fun j hj => by
   by_cases hjk : j = k
   ·subst hjk
    refine ⟨R, HXK.out, HRZ.out, HRL.out, fun c hc => ?_⟩
    have := rd_at (rd_own HOR.out) (i := c) (u := iV (M j c)) (by rw [List.getElem?_map, HQR.out c (by omega)]; rfl)
    rwa [Nat.zero_add] at this
   ·obtain ⟨b, h1, h2, h3, h4⟩ := HQX.out j (by omega)
    exact ⟨b, h1, h2, Nat.lt_trans h3 HRL.out, fun c hc => (HBR.out.cell (p := ⟨b, c, none⟩) h3).trans (h4 c hc)⟩
  have HO3 := Lib.hid (own_at HOX.out (HBR.out.block Z HRZ.out))
  have HB3 := Lib.hid (HBX.out.trans (HBR.out.mono (Nat.le_trans HZL.out (Nat.le_of_lt HRZ.out))))
  have HBL3 : Hid (Blk wr Y M) := by
   obtain ⟨cs, h1, h2, h3⟩ := HBLX.out
   exact ⟨cs, (HBR.out.block Y (Nat.lt_trans HYL.out HRZ.out)).trans h1, h2, h3⟩
  have HL3 : Hid (Z < wr.heap.size) := Nat.lt_trans HRZ.out HRL.out
  clear cz
  go_wp2_with fail
  go_roundw
  case rel => exact ⟨k + 1, us, by omega, by go_num, HO3.out, HQ3.out, HB3.out, HL3.out, HBL3.out⟩
  case measure => simp [intOf]; omega
 have q1 : (q : Int) < (N : Int) := by omega
 have q2 : (q : Int) < 12 := by omega
 have hbl : Blk wr Y M := by
  obtain ⟨cs, h1, h2, h3⟩ := HBLX.out
  exact ⟨cs, (HBR.out.block Y (Nat.lt_trans HYL.out HRZ.out)).trans h1, h2, h3⟩
 obtain ⟨d1, -⟩ := hbl.cell (show k < 12 by omega) (show q < 12 by omega)
 have hlen := HOR.out.1
 rw [List.length_map] at hlen
 obtain ⟨g, hge, -, -, hfz, hcell⟩ := own_blk HOR.out (by omega)
 cases hge
 obtain ⟨z1, hz1'⟩ : ∃ u, ys[q]? = some u := ⟨_, List.getElem?_eq_getElem (by omega)⟩
 have hck : wr.cell? ⟨R, q, none⟩ = some (iV z1) := hcell q _ (by rw [List.getElem?_map, hz1']; rfl)
 have hfk := hfz q
 have HO3 : Hid ((wr.setCell ⟨R, q, none⟩ (iV (M k q))).drew.ownsRow R 3 1 (.slice (some ⟨R, 0, none⟩) N N) N ((ys.set q (M k q)).map iV)) := by have h3 := own_store HOR.out q (iV (M k q)); rw [<- List.map_set] at h3; exact h3
 have HB3 : Hid (Below R W2 (wr.setCell ⟨R, q, none⟩ (iV (M k q))).drew) := b_drew (HBR.out.setCell (Nat.le_refl _) _)
 have HL3 : Hid (R < (wr.setCell ⟨R, q, none⟩ (iV (M k q))).drew.heap.size) := by show R < _; simp; exact HRL.out
 have HQ3 : Hid (∀ c < q + 1, (ys.set q (M k q))[c]? = some (M k c)) := fun c hc => by
  by_cases hcq : c = q
  ·subst hcq
   rw [List.getElem?_set_self (by omega)]
  ·rw [List.getElem?_set_ne (by omega)]
   exact HQR.out c (by omega)
 clear hz1' hcell hfz HOR HQR HBR HRL hlen hbl
 generalize hv : M k q = v at *
 clear hv
 go_wp2_with fail
 go_still_tail 11, (by kernel_rfl)
 go_wp2_with fail
 go_roundw
 case rel => exact ⟨q + 1, _, by omega, by go_num, HO3.out, HQ3.out, HB3.out, HL3.out⟩
 case measure => simp [intOf]; omega
end Go.Proofs.YtpeaiphdkgifaaaGreatDoor
