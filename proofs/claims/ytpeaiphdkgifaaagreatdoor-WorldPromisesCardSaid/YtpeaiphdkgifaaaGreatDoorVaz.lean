/- The text of a track tells the track, in plain Lean. Deeds that are -/
import Derived.Test.YtpeaiphdkgifaaaGreatDoorVay
import Derived.Test.YtpeaiphdkgifaaaGreatDoorVai
import Derived.Deep.AppendLies
namespace Go.Proofs.YtpeaiphdkgifaaaGreatDoor
open Go.RowKit
set_option maxHeartbeats 20000000
set_option maxRecDepth 100000
def cr : List (List UInt8) -> List UInt8
 | [] => []
 | w :: ws => w ++ ws.flatMap fun x => 32 :: x
def iS : List UInt8 -> List (List UInt8)
 | [] => [[]]
 | c :: l => if c = 32 then [] :: iS l else match iS l with
  | [] => [[c]]
  | w :: ws => (c :: w) :: ws
theorem mf (w : List UInt8) (hw : ∀ c ∈ w, c ≠ 32) (r : List UInt8) (x : List UInt8) (xs : List (List UInt8)) (h : iS r = x :: xs) : iS (w ++ r) = (w ++ x) :: xs := by
 induction w with
 | nil => exact h
 | cons c w ih =>
  have := ih (fun d hd => hw d (List.mem_cons_of_mem _ hd))
  rw [List.cons_append, iS, if_neg (hw c (List.mem_cons_self ..)), this]
  rfl
theorem mg : ∀ (ws : List (List UInt8)), (∀ w ∈ ws, ∀ c ∈ w, c ≠ 32) -> iS (ws.flatMap fun x => 32 :: x) = [] :: ws
 | [], _ => rfl
 | w :: ws, h => by
  have ih := mg ws (fun x hx => h x (List.mem_cons_of_mem _ hx))
  rw [List.flatMap_cons, List.cons_append, iS, if_pos rfl, mf w (h w (List.mem_cons_self ..)) _ [] ws ih, List.append_nil]
theorem mh {ws : List (List UInt8)} (hne : ws ≠ []) (h : ∀ w ∈ ws, ∀ c ∈ w, c ≠ 32) : iS (cr ws) = ws := by
 cases ws with
 | nil => exact absurd rfl hne
 | cons w ws =>
  have ih := mg ws (fun x hx => h x (List.mem_cons_of_mem _ hx))
  rw [cr, mf w (h w (List.mem_cons_self ..)) _ [] ws ih, List.append_nil]
theorem vY {a b : List (List UInt8)} (ha : a ≠ []) (hb : b ≠ []) (h1 : ∀ w ∈ a, ∀ c ∈ w, c ≠ 32) (h2 : ∀ w ∈ b, ∀ c ∈ w, c ≠ 32) (h : cr a = cr b) : a = b := by
 rw [<- mh ha h1, <- mh hb h2, h]
def valD (l : List UInt8) : Nat := l.foldl (fun a c => 10 * a + (c.toNat - 48)) 0
theorem nO {d : Nat} (h : d < 10) : (UInt8.ofNat (48 + d)).toNat - 48 = d := by
 rw [UInt8.toNat_ofNat']
 omega
theorem pu (u : Nat) : valD (Lib.decDigits u) = u := by
 induction u using Nat.strongRecOn with
 | _ u ih =>
  rw [Lib.decDigits]
  split
  ·rename_i h
   show 10 * 0 + ((UInt8.ofNat (48 + u)).toNat - 48) = u
   rw [nO h]
   omega
  ·rename_i h
   have := ih (u / 10) (by omega)
   unfold valD at this ⊢
   rw [List.foldl_append, this]
   show 10 * (u / 10) + ((UInt8.ofNat (48 + u % 10)).toNat - 48) = u
   rw [nO (by omega)]
   omega
theorem kY (u : Nat) : ∀ c ∈ Lib.decDigits u, 48 <= c.toNat /\ c.toNat <= 57 := by
 induction u using Nat.strongRecOn with
 | _ u ih =>
  intro c hc
  rw [Lib.decDigits] at hc
  split at hc
  ·rename_i h
   rw [aR.1 hc, UInt8.toNat_ofNat']
   omega
  ·rename_i h
   rcases List.mem_append.1 hc with hc | hc
   ·exact ih (u / 10) (by omega) c hc
   ·rw [aR.1 hc, UInt8.toNat_ofNat']
    omega
theorem fU {n : Int} : ∀ c ∈ Lib.itoa n, c ≠ 32 := by
 intro c hc e
 subst e
 unfold Lib.itoa at hc
 split at hc
 ·rcases List.mem_cons.1 hc with h | h
  ·cases h
  ·have := kY _ _ h
   simp at this
 ·have := kY _ _ hc
  simp at this
theorem gl {a b : Int} (h : Lib.itoa a = Lib.itoa b) : a = b := by
 have hd : ∀ u v : Nat, Lib.decDigits u = Lib.decDigits v -> u = v := fun u v e => by rw [<- pu u, <- pu v, e]
 have hno : ∀ u v : Nat, 45 :: Lib.decDigits u ≠ Lib.decDigits v := fun u v e => by
  have := kY v 45 (by rw [<- e]; exact List.mem_cons_self ..)
  simp at this
 unfold Lib.itoa at h
 split at h
 ·split at h
  ·have := hd _ _ (List.cons.inj h).2
   omega
  ·exact absurd h (hno _ _)
 ·split at h
  ·exact absurd h.symm (hno _ _)
  ·have := hd _ _ h
   omega
def jh (b : Bool) : List UInt8 := if b then [116, 114, 117, 101] else [102, 97, 108, 115, 101]
def ey (s : St) : List (List UInt8) := [Lib.itoa s.office, Lib.itoa s.arrive, Lib.itoa s.depart, Lib.itoa s.line]
def bP (it : Itm) : List (List UInt8) := jh it.lost :: Lib.itoa it.stops.length :: Lib.itoa it.since.length :: (it.stops.flatMap ey ++ (it.since.map Lib.itoa ++ (it.labs ++ it.seals)))
theorem np : ∀ {l m : List St}, l.length = m.length -> l.flatMap ey = m.flatMap ey -> l = m
 | [], [], _, _ => rfl
 | [], _ :: _, h, _ => by simp at h
 | _ :: _, [], h, _ => by simp at h
 | a :: l, b :: m, h, e => by
  simp only [List.flatMap_cons, ey, List.cons_append, List.nil_append, List.cons.injEq] at e
  obtain ⟨e1, e2, e3, e4, e5⟩ := e
  have := np (l := l) (m := m) (by simpa using h) e5
  cases a
  cases b
  simp only at e1 e2 e3 e4
  rw [gl e1, gl e2, gl e3, gl e4, this]
theorem nF : ∀ {l m : List Int}, l.map Lib.itoa = m.map Lib.itoa -> l = m
 | [], [], _ => rfl
 | [], _ :: _, h => by simp at h
 | _ :: _, [], h => by simp at h
 | a :: l, b :: m, h => by
  simp only [List.map_cons, List.cons.injEq] at h
  rw [gl h.1, nF h.2]
theorem fg (l : List St) : (l.flatMap ey).length = 4 * l.length := by
 induction l with
 | nil => rfl
 | cons a l ih => rw [List.flatMap_cons, List.length_append, ih]; simp [ey]; omega
theorem vU {l : List UInt8} (h : gW l = true) : ∀ c ∈ l, c ≠ 32 := by
 intro c hc e
 subst e
 unfold gW at h
 simp only [Bool.and_eq_true, List.all_eq_true] at h
 have := h.1.1 32 hc
 simp at this
theorem tc {a b : Int} : ∀ c ∈ cZ a b, c ≠ 32 := by
 intro c hc
 unfold cZ at hc
 rcases List.mem_cons.1 hc with rfl | hc
 ·decide
 ·rcases List.mem_append.1 hc with hc | hc
  ·exact fU c hc
  ·rcases List.mem_cons.1 hc with rfl | hc
   ·decide
   ·exact fU c hc
theorem mr {n : Net} : ∀ {l : List St} {es : List (List UInt8)}, fK n l es -> ∀ e ∈ es, ∃ a b, e = cZ a b
 | [_], [], _, e, he => by cases he
 | _ :: b :: l, x :: es, h, e, he => by
  rcases List.mem_cons.1 he with rfl | he
  ·exact ⟨_, _, h.1.seal_⟩
  ·exact mr h.2 e he
theorem l7 {n : Net} {it : Itm} (hi : fL n it) (hl : ∀ l ∈ it.labs, gW l = true) : ∀ w ∈ bP it, ∀ c ∈ w, c ≠ 32 := by
 intro w hw
 unfold bP at hw
 simp only [List.mem_cons, List.mem_append] at hw
 rcases hw with rfl | rfl | rfl | hw | hw | hw | hw
 ·intro c hc
  unfold jh at hc
  split at hc
  ·simp at hc
   rcases hc with rfl | rfl | rfl | rfl <;> decide
  ·simp at hc
   rcases hc with rfl | rfl | rfl | rfl | rfl <;> decide
 ·exact fU
 ·exact fU
 ·obtain ⟨s, -, hs⟩ := List.mem_flatMap.1 hw
  simp only [ey, List.mem_cons, List.not_mem_nil, or_false] at hs
  rcases hs with rfl | rfl | rfl | rfl <;> exact fU
 ·obtain ⟨t, -, rfl⟩ := List.mem_map.1 hw
  exact fU
 ·exact vU (hl w hw)
 ·obtain ⟨a, b, rfl⟩ := mr hi.path w hw
  exact tc
theorem pz {n : Net} {x y : Itm} (hx : fL n x) (hy : fL n y) (lx : ∀ l ∈ x.labs, gW l = true) (ly : ∀ l ∈ y.labs, gW l = true) (h : cr (bP x) = cr (bP y)) : x.lost = y.lost /\ x.stops = y.stops /\ x.since = y.since /\ x.labs = y.labs /\ x.seals = y.seals := by
 have e := vY (by unfold bP; simp) (by unfold bP; simp) (l7 hx lx) (l7 hy ly) h
 unfold bP at e
 simp only [List.cons.injEq] at e
 obtain ⟨e1, e2, e3, e4⟩ := e
 have h1 : x.stops.length = y.stops.length := by have := gl e2; omega
 have h2 : x.since.length = y.since.length := by have := gl e3; omega
 obtain ⟨f1, f2⟩ := List.append_inj e4 (by rw [fg, fg, h1])
 obtain ⟨f3, f4⟩ := List.append_inj f2 (by simp [h2])
 obtain ⟨f5, f6⟩ := List.append_inj f4 (by rw [<- hx.labs.1, <- hy.labs.1, h2])
 refine ⟨?_, np h1 f1, nF f3, f5, f6⟩
 unfold jh at e1
 cases hl : x.lost <;> cases hm : y.lost <;> simp [hl, hm] at e1 ⊢
theorem nQ {n : Net} {d : Ded} : ∀ {ds bef : List Ded} {t : Int}, bK n bef t ds -> t <= d.time -> (∀ e ∈ ds, e.time <= d.time) -> d.time <= 1000000 -> iK n (bef ++ ds) d -> bK n bef t (ds ++ [d])
 | [], bef, t, _, ht, _, h6, hd => by
  rw [List.append_nil] at hd
  exact ⟨ht, h6, hd, trivial⟩
 | e :: ds, bef, t, h, ht, hall, h6, hd => by
  obtain ⟨h1, h2, h3, h4⟩ := h
  refine ⟨h1, h2, h3, nQ h4 (hall e (List.mem_cons_self ..)) (fun x hx => hall x (List.mem_cons_of_mem _ hx)) h6 ?_⟩
  rw [List.append_assoc]
  exact hd
theorem nP {n : Net} {ds : List Ded} : ∀ (m : Nat), m <= ds.length -> (∀ i d, i < m -> ds[i]? = some d -> 0 <= d.time /\ d.time <= 1000000 /\ (∀ e, 0 < i -> ds[i - 1]? = some e -> e.time <= d.time) /\ iK n (ds.take i) d) -> bK n [] 0 (ds.take m) /\ ∀ e ∈ ds.take m, ∀ x, 0 < m -> ds[m - 1]? = some x -> e.time <= x.time
 | 0, _, _ => ⟨trivial, fun e he => by simp at he⟩
 | m + 1, hm, h => by
  obtain ⟨a, b⟩ := nP m (by omega) (fun i d hi hd => h i d (by omega) hd)
  obtain ⟨d, hd⟩ : ∃ d, ds[m]? = some d := ⟨_, aD (by omega)⟩
  obtain ⟨h1, h2, h3, h4⟩ := h m d (by omega) hd
  have e1 : ds.take (m + 1) = ds.take m ++ [d] := by rw [List.take_add_one, hd]; rfl
  have hall : ∀ e ∈ ds.take m, e.time <= d.time := fun e he => by
   cases m with
   | zero => simp at he
   | succ k =>
    obtain ⟨x, hx⟩ : ∃ x, ds[k]? = some x := ⟨_, aD (by omega)⟩
    have h5 := b e he x (by omega) (by simpa using hx)
    have h6 := h3 x (by omega) (by simpa using hx)
    omega
  rw [e1]
  refine ⟨nQ a h1 hall h2 (by simpa using h4), fun e he x _ hx => ?_⟩
  rw [Nat.add_sub_cancel, hd] at hx
  cases hx
  rcases List.mem_append.1 he with he | he
  ·exact hall e he
  ·rw [aR.1 he]
   exact Int.le_refl _
theorem wH {n : Net} {ds : List Ded} (h : ∀ i d, i < ds.length -> ds[i]? = some d -> 0 <= d.time /\ d.time <= 1000000 /\ (∀ e, 0 < i -> ds[i - 1]? = some e -> e.time <= d.time) /\ iK n (ds.take i) d) : bK n [] 0 ds := by
 have := (nP ds.length (aH _) h).1
 rwa [List.take_of_length_le (aH _)] at this
def gi (p : Pst) : Ded := ⟨1, p.acc, p, [], [], 0⟩
theorem pM {n : Net} {p : Pst} (h : qI n p) : bK n [] 0 [gi p] :=
 ⟨h.2.2.2.2.1, h.2.2.2.2.2, .inl ⟨rfl, h.1, by simp [bD], h.2.1, h.2.2.1, h.2.2.2.1, rfl⟩, trivial⟩
theorem fE {n : Net} {nx : List NsC} {ds : List Ded} {t : Int} {h : Hst} (H : em n nx ds t h) {it : Itm} (hi : it ∈ h.items) : ∀ l ∈ it.labs, gW l = true := fun l hl => by
 obtain ⟨j, hj, e⟩ := H.labs it hi l hl
 rw [<- e]
 exact (H.pst j hj).1
theorem oD {α : Type} {nm : Nat -> List UInt8} {gd : α -> Bool} {x : α} (h1 : bI (nm 0) = true) (h2 : gd x = true) : ∀ i < [x].length, cB nm gd [x] i := by
 intro i hi
 obtain rfl : i = 0 := by simpa using hi
 exact ⟨h1, rfl, fun y hy => by cases hy; exact h2⟩
theorem sE {α : Type} {nm : Nat -> List UInt8} {gd : α -> Bool} {x y : α} (h1 : bI (nm 0) = true) (h2 : gd x = true) (h3 : bI (nm 1) = true) (h4 : gd y = true) (h5 : bS nm 1 = true) : ∀ i < [x, y].length, cB nm gd [x, y] i := by
 intro i hi
 have : i = 0 ∨ i = 1 := by simp at hi; omega
 rcases this with rfl | rfl
 ·exact ⟨h1, rfl, fun z hz => by cases hz; exact h2⟩
 ·exact ⟨h3, h5, fun z hz => by cases hz; exact h4⟩
def wD (wA : Option Addr) : Cal := ⟨0, [true, true, true, true, true, false, false], wA, 7, [], none, 0⟩
def oO (x : UInt8) : Off := ⟨[x], 0, 0, 2, 1, 10, [], none, 0⟩
def exW (wA a1 a2 a3 a4 a5 a6 : Option Addr) : Net :=
 { cals := [wD wA], calA := a1, calC := 1, names := [[99]], namA := a2, namC := 1, ops := [[112]], opA := a3, opC := 1, offs := [oO 97, oO 98], offA := a4, offC := 2, lins := [⟨[108], 0, 1, 480, 120, 1⟩, ⟨[109], 1, 0, 600, 60, 1⟩], linA := a5, linC := 2, clss := [⟨[107], 1020, 720⟩], clsA := a6, clsC := 1 }
def jI (A B : Option Addr) : List NsC := [⟨[-1, 0], A, 2⟩, ⟨[1, -1], B, 2⟩]
def a7 : Ded := ⟨1, 100, ⟨[65], 0, 1, 0, 100⟩, [], [], 0⟩
def kz : Ded := ⟨3, 300, ⟨[], 0, 0, 0, 0⟩, [65], [], 0⟩
def fD (t : Int) : Ded := ⟨2, t, ⟨[], 0, 0, 0, 0⟩, [65], [], 0⟩
def ez : Ded := ⟨1, 100, ⟨[66], 0, 0, 0, 100⟩, [], [], 0⟩
def eK : Ded := ⟨4, 200, ⟨[], 0, 0, 0, 0⟩, [65], [66], 0⟩
section
variable (wA a1 a2 a3 a4 a5 a6 A B : Option Addr)
theorem exw_1 : cX (exW wA a1 a2 a3 a4 a5 a6) (jI A B) [a7] = some ⟨[⟨a7.post, [⟨0, 100, 480, 0⟩, ⟨1, 600, -1, -1⟩], false, [100], [[65]], [cZ 0 480], 0, -1, 0⟩], []⟩ := by kernel_rfl
theorem exw_2 : cX (exW wA a1 a2 a3 a4 a5 a6) (jI A B) [a7, kz] = some ⟨[⟨a7.post, [⟨0, 100, 1920, 0⟩, ⟨1, 2040, -1, -1⟩], false, [100], [[65]], [cZ 0 1920], 0, -1, 0⟩], []⟩ := by kernel_rfl
theorem exw_3 : cX (exW wA a1 a2 a3 a4 a5 a6) (jI A B) [a7, fD 480] = some ⟨[⟨a7.post, [⟨0, 100, -1, -1⟩], true, [100], [[65]], [], 0, -1, 0⟩], []⟩ := by kernel_rfl
theorem exw_4 : cX (exW wA a1 a2 a3 a4 a5 a6) (jI A B) [a7, fD 481] = some ⟨[⟨a7.post, [⟨0, 100, 480, 0⟩, ⟨1, 600, -1, -1⟩], true, [100], [[65]], [cZ 0 480], 0, -1, 0⟩], []⟩ := by kernel_rfl
theorem exw_5 : cX (exW wA a1 a2 a3 a4 a5 a6) (jI A B) [a7, ez, eK] = some ⟨[⟨a7.post, [⟨0, 100, -1, -1⟩], false, [100, 200], [[65], [66]], [], 0, -1, 0⟩, ⟨ez.post, [⟨0, 100, 480, 0⟩, ⟨1, 600, -1, -1⟩], false, [100, 200], [[66], [65]], [cZ 0 480], 0, -1, 0⟩], []⟩ := by kernel_rfl
theorem qm : jB (exW wA a1 a2 a3 a4 a5 a6) :=
 ⟨rfl, ⟨by show 1 <= 6; decide, oD (by kernel_rfl) (by kernel_rfl)⟩, ⟨by show 1 <= 6; decide, oD (by kernel_rfl) (by kernel_rfl)⟩,
  ⟨by show 2 <= 12; decide, sE (by kernel_rfl) (by kernel_rfl) (by kernel_rfl) (by kernel_rfl) (by kernel_rfl)⟩,
  ⟨by show 2 <= 40; decide, sE (by kernel_rfl) (by kernel_rfl) (by kernel_rfl) (by kernel_rfl) (by kernel_rfl)⟩,
  ⟨by show 1 <= 4; decide, oD (by kernel_rfl) (by kernel_rfl)⟩⟩
theorem uu : bM (exW wA a1 a2 a3 a4 a5 a6) := by
 refine ⟨qm wA a1 a2 a3 a4 a5 a6, fun b hb a ha => ?_⟩
 have hE := kC (qm wA a1 a2 a3 a4 a5 a6).lins
 have hb2 : b < 2 := hb
 have ha2 : a < 2 := ha
 have key : ∃ L, Wlk (am (exW wA a1 a2 a3 a4 a5 a6)) a b L := by
  have e1 : (0, 1, (120 : Int)) ∈ am (exW wA a1 a2 a3 a4 a5 a6) := by simp [am, exW]
  have e2 : (1, 0, (60 : Int)) ∈ am (exW wA a1 a2 a3 a4 a5 a6) := by simp [am, exW]
  rcases (by omega : a = 0 ∨ a = 1) with rfl | rfl
  ·rcases (by omega : b = 0 ∨ b = 1) with rfl | rfl
   ·exact ⟨_, .nil 0⟩
   ·exact ⟨_, .cons e1 (.nil 1)⟩
  ·rcases (by omega : b = 0 ∨ b = 1) with rfl | rfl
   ·exact ⟨_, .cons e2 (.nil 0)⟩
   ·exact ⟨_, .nil 1⟩
 obtain ⟨L, hL⟩ := key
 exact (sI (by omega) hE (by omega) (by omega) hL).1
theorem rJ : bi (exW wA a1 a2 a3 a4 a5 a6) (jI A B) := by
 refine ⟨rfl, fun o ho => ?_⟩
 have ho2 : o < 2 := ho
 rcases (by omega : o = 0 ∨ o = 1) with rfl | rfl
 ·refine ⟨_, rfl, rfl, fun l hl => ?_⟩
  have : l = -1 ∨ l = 0 := by simpa using hl
  rcases this with rfl | rfl
  ·exact .inl rfl
  ·exact .inr ⟨by decide, by show (0 : Int) < 2; decide, rfl⟩
 ·refine ⟨_, rfl, rfl, fun l hl => ?_⟩
  have : l = 1 ∨ l = -1 := by simpa using hl
  rcases this with rfl | rfl
  ·exact .inr ⟨by decide, by show (1 : Int) < 2; decide, rfl⟩
  ·exact .inl rfl
theorem lV : iK (exW wA a1 a2 a3 a4 a5 a6) [] a7 := .inl ⟨rfl, by decide, by simp [bD], ⟨by decide, by show (0 : Int) < 2; decide⟩, ⟨by decide, by show (1 : Int) < 2; decide⟩, ⟨by decide, by show (0 : Int) < 1; decide⟩, rfl⟩
theorem exw_d1 : bK (exW wA a1 a2 a3 a4 a5 a6) [] 0 [a7] := ⟨by decide, by decide, lV .., trivial⟩
theorem exw_d2 : bK (exW wA a1 a2 a3 a4 a5 a6) [] 0 [a7, kz] := ⟨by decide, by decide, lV .., by decide, by decide, .inr (.inl ⟨.inr rfl, by decide⟩), trivial⟩
theorem wC {t : Int} (h1 : 100 <= t) (h2 : t <= 1000000) : bK (exW wA a1 a2 a3 a4 a5 a6) [] 0 [a7, fD t] := ⟨by decide, by decide, lV .., h1, h2, .inr (.inl ⟨.inl rfl, by show [65] ∈ bD [a7]; decide⟩), trivial⟩
theorem exw_d5 : bK (exW wA a1 a2 a3 a4 a5 a6) [] 0 [a7, ez, eK] :=
 ⟨by decide, by decide, lV .., by decide, by decide, .inl ⟨rfl, by decide, by decide, ⟨by decide, by show (0 : Int) < 2; decide⟩, ⟨by decide, by show (0 : Int) < 2; decide⟩, ⟨by decide, by show (0 : Int) < 1; decide⟩, rfl⟩, by decide, by decide, .inr (.inr (.inl ⟨rfl, by decide, by decide, by decide⟩)), trivial⟩
theorem exw_s : cZ 0 480 = [67, 48, 46, 52, 56, 48] := by
 unfold cZ
 have h1 : Lib.itoa 0 = [48] := by unfold Lib.itoa; rw [if_neg (by decide)]; exact Lib.decDigits_one (by decide)
 have h2 : Lib.itoa 480 = [52, 56, 48] := by
  unfold Lib.itoa
  rw [if_neg (by decide), Lib.decDigits, dif_neg (by decide)]
  show Lib.decDigits 48 ++ _ = _
  rw [Lib.decDigits_two (by decide) (by decide)]
  rfl
 rw [h1, h2]
 rfl
end
theorem intTInf : (Tryz.prog.info? 3).map (fun i => (i.zero, i.size, i.bytes)) = some (some (.int .i64 0), 1, 8) := by kernel_rfl
theorem strTInf : (Tryz.prog.info? 9).map (fun i => (i.zero, i.size, i.bytes)) = some (some (.string ⟨#[]⟩), 1, 16) := by kernel_rfl
def gw (p : Pst) : Itm := { gT p with line := 0 }
theorem itPInf : (Tryz.prog.info? 101).map (fun i => (i.zero, i.size, i.bytes)) = some (some (.pointer none), 1, 8) := by kernel_rfl
abbrev jz (d : Ded) (X : Nat) : List Obj := [an d, .cells #[iV d.post.frm, iV d.post.acc, iV (-1), iV (-1)] 50, .cells #[iV d.post.acc] 3, .cells #[sV d.post.label] 9,
 .cells #[sV d.post.label, iV d.post.frm, iV d.post.dst, iV d.post.cls, iV d.post.acc, .slice (some (aV (X + 1) 0)) 1 1, .bool false, .slice (some (aV (X + 1 + 1) 0)) 1 1, .slice (some (aV (X + 1 + 1 + 1) 0)) 1 1, .slice none 0 0, iV 0, iV 0, iV 0] 103]
abbrev m7 (X : Nat) : ItA := ⟨X + 1 + 1 + 1 + 1, X + 1, 1, X + 1 + 1, 1, X + 1 + 1 + 1, 1, none, 0⟩
theorem newA_in (base : Nat) (d : Ded) (W : World) (hb : base <= W.heap.size) : cD base (au W (jz d W.heap.size)) (gw d.post) (m7 W.heap.size) := by
 have hg := bN (jz d W.heap.size) W
 have g1 : (au W (jz d W.heap.size)).heap[W.heap.size + 1]? = some _ := hg 1 _ rfl
 have g2 : (au W (jz d W.heap.size)).heap[W.heap.size + 1 + 1]? = some _ := hg 2 _ rfl
 have g3 : (au W (jz d W.heap.size)).heap[W.heap.size + 1 + 1 + 1]? = some _ := hg 3 _ rfl
 have g4 : (au W (jz d W.heap.size)).heap[W.heap.size + 1 + 1 + 1 + 1]? = some _ := hg 4 _ rfl
 have r1 : (au W (jz d W.heap.size)).ownsRow base 50 4 (.slice (some (aV (W.heap.size + 1) 0)) (1 : Nat) 1) 1 (bO ⟨d.post.frm, d.post.acc, -1, -1⟩) := kO g1 (by omega) rfl (by decide) rfl
 have r2 : (au W (jz d W.heap.size)).ownsRow base 3 1 (.slice (some (aV (W.heap.size + 1 + 1) 0)) (1 : Nat) 1) 1 [iV d.post.acc] := kO g2 (by omega) rfl (by decide) rfl
 have r3 : (au W (jz d W.heap.size)).ownsRow base 9 1 (.slice (some (aV (W.heap.size + 1 + 1 + 1) 0)) (1 : Nat) 1) 1 [sV d.post.label] := kO g3 (by omega) rfl (by decide) rfl
 exact ⟨⟨0, bu (by decide) (by decide), fun _ => rfl, g4⟩, by show base <= W.heap.size + 1 + 1 + 1 + 1; omega, r1, r2, r3, ⟨rfl, .inl ⟨rfl, rfl⟩⟩⟩
theorem vu (w W : World) (n : Net) (nx : List NsC) (nxA : Option Addr) (nxC : Nat) (h : Hst) (A : HsA) (d : Ded) (hS : bM n) (hF : bi n nx) (H : WdH w W n nx nxA nxC h A) (hp : qI n d.post) (hlab : d.post.label ∉ h.items.map fun i => i.post.label) (hL : h.items.length <= 1000) (hk : d.kind = 1) :
  Calls Tryz.prog 94 #[.pointer (some (aV A.hb 0)), kF d] W fun e W' => e = .returned (.tuple #[]) /\ ∃ A', WdH w W' n nx nxA nxC (dR n nx h d) A' /\ A'.core = A.core := by
 obtain ⟨i0, hi0, hz0, hz1, hz2⟩ := info_parts itPInf
 have hB := bv (jz d W.heap.size) W
 have hg := bN (jz d W.heap.size) W
 have hsz := eH (jz d W.heap.size) W
 have hnew := newA_in w.heap.size d W H.bel.size
 have H1 := H.below hB
 have g0 : (au W (jz d W.heap.size)).heap[W.heap.size]? = some (an d) := hg 0 _ rfl
 have x2 : (W.alloc (an d)).cell? (aV W.heap.size 2) = some (sV d.post.label) := aA 2 (aC W (an d))
 have HW := aB H
 have HWb := aB hB
 have HN0 := aB hnew
 have HP := aB hp
 have HLB := aB hlab
 have HF := aB hF
 have hact : dR n nx h d = { h with items := h.items ++ [aY n nx h.canc d.post.dst (gT d.post)] } := by
  unfold dR
  rw [if_pos hk]
 have HAC := aB hact
 have hll : d.post.label.length <= 20 := by
  have := hp.1
  unfold gW at this
  simp only [Bool.and_eq_true, decide_eq_true_eq] at this
  exact this.2
 have HLL := aB hll
 have HLT : Hid (∀ b ∈ A.all, b < W.heap.size) := fun b hb => (H.hs.lt b hb).2
 clear hk hact hll hp hlab
 go_enter Tryz.func94, Tryz.ntmps94
 go_upto_region 2 with fail
 change Code.wp _ _ _ _ (au W (jz d W.heap.size))
 clear x2 hg hB hnew H hF
 have hsz5 : (au W (jz d W.heap.size)).heap.size = W.heap.size + 5 := hsz
 clear hsz
 generalize au W (jz d W.heap.size) = W1 at *
 have c7 : W1.cell? (aV A.hb 7) = some (.slice A.iB h.items.length A.iC) := H1.hs.cell rfl
 have HR := aB H1.hs.row
 have HH1 := aB H1
 have HG0 := aB g0
 have HSZ := aB hsz5
 have HAP := aB H1.hs.apart
 have HLE : Hid (w.heap.size <= W1.heap.size) := H1.bel.size
 clear H1 g0 hsz5
 obtain ⟨X, hX⟩ : ∃ X, W.heap.size = X := ⟨_, rfl⟩
 rw [hX]
 have HX := aB hX
 clear hX
 go_wp2_with (at_builtin; go_loud (refine wpList_append_lies _ rfl _ _ _ rfl w.heap.size 101 i0 _ 1 8 Tryz.underlying94 hi0 hz0 hz1 hz2 rfl (by omega) _ _ _ rfl (aq HR.out (ba W1 _)) (aV W1.heap.size 0) 1 1 [.pointer (some (aV (X + 1 + 1 + 1 + 1) 0))] rfl rfl (fun j u hu => by rw [gr, Nat.zero_add]; exact (aA j (aC W1 (.cells #[.pointer (some (aV (X + 1 + 1 + 1 + 1) 0))] 101))).trans (by simpa using hu)) (fun u hu => by simp at hu; subst hu; rfl) (by omega) (by unfold maxLen; omega) (by omega) (by have := HLE.out; simp; omega) (W1.heap.size + 1) (by simp) ?_; intro g cap w2 own1 hgrow hat hlt; have hgrow2 : (W1.alloc (.cells #[.pointer (some (aV (X + 1 + 1 + 1 + 1) 0))] 101)).grownBy w2 (A.iB.map (·.block)) := (by have h9 : (W1.alloc (.cells #[.pointer (some (aV (X + 1 + 1 + 1 + 1) 0))] 101)).grownBy w2 (Value.ownBlock (.slice A.iB h.items.length A.iC)) := hgrow; rw [dJ] at h9; exact h9); have hb2 : w2.heap[A.hb]? = W1.heap[A.hb]? := (hgrow2.block _ (by have := aa HH1.out.hs.blk; simp; omega) (fun e => (HAP.out.2.2.2 _ e.symm).1 rfl)).trans (aK _ _ _ (aa HH1.out.hs.blk)); have hk2 := hb2.trans HH1.out.hs.blk; have d7 : w2.cell? (aV A.hb 7) = some (.slice A.iB h.items.length A.iC) := aA 7 hk2; have f7 : w2.frozen? (aV A.hb 7) = false := ac hk2 7))
 have hat2 : A.iB.map (·.block) = some g ∨ g = W1.heap.size + 1 := by
  have h9 : Value.ownBlock (.slice A.iB h.items.length A.iC) = some g ∨ g = W1.heap.size + 1 := hat
  rw [dJ] at h9
  exact h9
 have hc2 : bz ([A.hb, A.nm] ++ (A.iB.map (·.block)).toList) W1 w2 := ((bz.refl _ _).trans (bz.of_below (S := []) (ba W1 _)) (fun b hb => by cases hb)).grown hgrow2 (fun b hb => .inl (by rw [hb]; simp))
 have hgh : g ≠ A.hb := by
  rcases hat2 with e | e
  ·exact (HAP.out.2.2.2 _ e).1
  ·have := aa HH1.out.hs.blk
   omega
 have hgn : g ≠ A.nm := by
  rcases hat2 with e | e
  ·exact (HAP.out.2.2.2 _ e).2.1
  ·have := HH1.out.hs.nam.lt
   omega
 have hgx : ∀ b, X <= b -> b < X + 5 -> g ≠ b := fun b h1 h2 e => by
  rcases hat2 with e' | e'
  ·have := HLT.out g (aQ _ (by simp [HsA.own, e']))
   have := HX.out
   omega
  ·have := HSZ.out
   have := HX.out
   omega
 have hc3 := (hc2.set (b := A.hb) 7 (.slice (some (aV g 0)) (h.items.length + 1) cap) (.inl (by simp)))
 have hrow3 : (w2.setCell (aV A.hb 7) (.slice (some (aV g 0)) (h.items.length + 1) cap)).ownsRow w.heap.size 101 1 (.slice (some (aV g 0)) (h.items.length + 1) cap) (h.items.length + 1) ((A.its.map fun a => .pointer (some (aV a.b 0))) ++ [.pointer (some (aV (X + 1 + 1 + 1 + 1) 0))]) := cx own1 (dW (W := w2) 7 (.slice (some (aV g 0)) (h.items.length + 1) cap) [A.hb] (by simp)) (fun b hb => by
  have : g = b := by simpa [Value.ownBlock] using hb
  subst this
  simpa using hgh)
 have hbk3 : (w2.setCell (aV A.hb 7) (.slice (some (aV g 0)) (h.items.length + 1) cap)).heap[A.hb]? = some (.cells (qg n nxA nx.length nxC (some (aV g 0)) (h.items.length + 1) cap A.nm A.cm) 96 (0, 0)) := bE hk2 7 _
 have hlt9 : w2.heap.size = (w2.setCell (aV A.hb 7) (.slice (some (aV g 0)) (h.items.length + 1) cap)).heap.size := by simp
 have hnm3 : (w2.setCell (aV A.hb 7) (.slice (some (aV g 0)) (h.items.length + 1) cap)).heap[A.nm]? = W1.heap[A.nm]? := (Below.heap_setCell _ _ _ _ (by show A.nm ≠ A.hb; exact HAP.out.1.symm)).trans ((hgrow2.block _ (by have := HH1.out.hs.nam.lt; simp; omega) (fun e => (HAP.out.2.2.2 _ e.symm).2.1 rfl)).trans (aK _ _ _ HH1.out.hs.nam.lt))
 have hx3 : (w2.setCell (aV A.hb 7) (.slice (some (aV g 0)) (h.items.length + 1) cap)).heap[X]? = some (an d) := by
  have h0 := HG0.out
  rw [HX.out] at h0
  refine (Below.heap_setCell _ _ _ _ ?_).trans ((hgrow2.block _ (by have := aa h0; simp; omega) (fun e => ?_)).trans ((aK _ _ _ (aa h0)).trans h0))
  ·show X ≠ A.hb
   have := HLT.out A.hb (by simp [HsA.all, HsA.own])
   have := HX.out
   omega
  ·have := HLT.out X (aQ _ (by simp [HsA.own, e.symm]))
   have := HX.out
   omega
 have HC3 := aB hc3
 have HR3 := aB hrow3
 have HB3 := aB hbk3
 have HM3 := aB (HH1.out.hs.nam.kept hnm3)
 have HX3 := aB hx3
 have HGX := aB hgx
 have HAT := aB hat2
 have HGS : Hid (W1.heap.size <= w2.heap.size) := aB hc2.size
 clear own1 hgrow hgrow2 hat hat2 hb2 hk2 d7 f7 hc2 hgh hgn hgx hc3 hrow3 hbk3 hnm3 hx3 c7 hlt hlt9
 generalize (w2.setCell (aV A.hb 7) (.slice (some (aV g 0)) (h.items.length + 1) cap)) = w3 at *
 obtain ⟨w4, hrun, hm4, hg4⟩ := (show dG Tryz.prog 9 w3.drew A.nm h.items.length (mY (jU h.items A.its)) from HM3.out).store vX Tryz.underlying92 (kx d.post.label (by have := HLL.out; unfold maxLen; omega)) (.pointer (some (aV (X + 1 + 1 + 1 + 1) 0)))
 have x2 : w3.drew.cell? (aV X 2) = some (sV d.post.label) := aA 2 HX3.out
 have x8 : w3.drew.cell? (aV A.hb 8) = some (.map (some A.nm)) := aA 8 HB3.out
 have HM4 := aB hm4
 have HG4 := aB hg4
 clear hm4 hg4
 go_region
 have HS4 : Hid (fM w.heap.size w4 n nxA nx.length nxC { h with items := h.items ++ [gw d.post] } { A with iB := some (aV g 0), iC := cap, its := A.its ++ [m7 X] }) := by
  have h4 : bz ([A.hb, A.nm] ++ (A.iB.map (·.block)).toList) W1 w4 := HC3.out.grown (r := some A.nm) ⟨HG4.out.os, HG4.out.tape, HG4.out.output, HG4.out.size, HG4.out.block⟩ (fun b hb => .inl (by cases hb; simp))
  have h0 : bz ([A.hb, A.nm] ++ (A.iB.map (·.block)).toList) W w4 := (bz.of_below HWb.out).trans h4 (fun _ hb => .inl hb)
  have hbl : ∀ b ∈ (m7 X).blks, X <= b /\ b < X + 5 := fun b hb => by
   simp [ItA.blks] at hb
   omega
  have e3 : A.nm ≠ A.hb := HAP.out.1.symm
  refine HW.out.hs.post h0 (fun b hb => hb) ?_ ?_ ?_ ?_ ?_ ?_ ?_ ?_ HLB.out
  ·exact (HG4.out.block _ (aa HB3.out) (by intro e; exact e3 (Option.some.inj e).symm)).trans HB3.out
  ·exact cx HR3.out (bz.of_grown (S := [A.nm]) (show w3.grownBy w4 (some A.nm) from ⟨HG4.out.os, HG4.out.tape, HG4.out.output, HG4.out.size, HG4.out.block⟩) (fun b hb => by cases hb; simp)) (fun b hb => by
    cases hb
    simp
    rcases HAT.out with e | e
    ·exact (HAP.out.2.2.2 _ e).2.1
    ·have := HH1.out.hs.nam.lt
     show g ≠ A.nm
     omega)
  ·rcases HAT.out with e | e
   ·exact .inl (by show g ∈ _; rw [e]; simp)
   ·exact .inr (by show W.heap.size <= g; have := HSZ.out; omega)
  ·exact HM4.out
  ·refine (show cD w.heap.size W1 (gw d.post) (m7 X) from by rw [<- HX.out]; exact HN0.out).chg h4 (fun b hb hb2 => ?_)
   have h1 := hbl b hb
   have h2 : b ∈ A.own := by
    rcases List.mem_append.1 hb2 with e | e
    ·exact aQ _ (by simp at e ⊢; rcases e with e | e <;> simp [e])
    ·exact aP _ e
   have h3 := HLT.out b (aQ _ h2)
   have := HX.out
   omega
  ·simp [ItA.blks]
   omega
  ·intro b hb
   have := hbl b hb
   have := HX.out
   omega
  ·intro hb
   have h1 := hbl _ hb
   exact HGX.out g h1.1 h1.2 rfl
 have HD4 : Hid (WdH w w4 n nx nxA nxC { h with items := h.items ++ [gw d.post] } { A with iB := some (aV g 0), iC := cap, its := A.its ++ [m7 X] }) := by
  refine ⟨HW.out.old, HS4.out, ?_⟩
  have h4 : bz ([A.hb, A.nm] ++ (A.iB.map (·.block)).toList) W1 w4 := HC3.out.grown (r := some A.nm) ⟨HG4.out.os, HG4.out.tape, HG4.out.output, HG4.out.size, HG4.out.block⟩ (fun b hb => .inl (by cases hb; simp))
  refine HH1.out.bel.trans (h4.below HLE.out (fun b hb => ?_))
  refine (HH1.out.hs.lt b (aQ _ ?_)).1
  rcases List.mem_append.1 hb with e | e
  ·exact aQ _ (by simp at e ⊢; rcases e with e | e <;> simp [e])
  ·exact aP _ e
 clear hrun x2 x8 HS4
 have hk1 : (h.items ++ [gw d.post])[h.items.length]? = some (gw d.post) := by simp
 have hk2 : (A.its ++ [m7 X])[h.items.length]? = some (m7 X) := by rw [<- HW.out.hs.len]; simp
 have hto : bw (h.items ++ [gw d.post]) (gw d.post) = d.post.dst := nk (i := gw d.post) HLB.out
 obtain ⟨q1, q2, q3, q4, q5, q6⟩ := HP.out
 have hD : jl n { h with items := h.items ++ [gw d.post] } (gw d.post) := ⟨⟨aH 1, show 1 <= 100 by decide⟩, q2, ⟨q5, by show d.post.acc <= 2200000; omega⟩, ⟨by simp [gw, gT], show 1 <= 100000 by decide⟩, ⟨by simp [gw, gT], show 1 <= 100000 by decide⟩, ⟨q5, q6⟩, ⟨by show d.post.label.length <= 1000; have := HLL.out; omega, gw d.post, by simp, rfl⟩, by rw [hto]; exact q3, Nat.zero_le _⟩
 have HCD : Hid (Calls Tryz.prog 101 #[.pointer (some (aV A.hb 0)), .pointer (some (aV (X + 1 + 1 + 1 + 1) 0))] w4 fun e W'' => e = .returned (.tuple #[]) /\ ∃ A', WdH w W'' n nx nxA nxC (dR n nx h d) A' /\ A'.core = A.core) := by
  refine (gq w w4 n nx nxA nxC _ _ h.items.length _ (m7 X) hS HF.out HD4.out hk1 hk2 hD).mono ?_
  rintro e W'' ⟨rfl, hs⟩
  refine ⟨rfl, { A with iB := some (aV g 0), iC := cap, its := A.its ++ [m7 X] }, ?_, rfl⟩
  have h6 := HD4.out.upd hk1 hk2 hs rfl
  rw [cO hk2] at h6
  rw [HAC.out]
  have e6 : (h.items ++ [gw d.post]).set h.items.length (aY n nx h.canc (bw (h.items ++ [gw d.post]) (gw d.post)) (gw d.post)) = h.items ++ [aY n nx h.canc d.post.dst (gT d.post)] := by
   rw [hto, List.set_append_right _ _ (aH _), Nat.sub_self]
   rfl
  have h7 : WdH w W'' n nx nxA nxC { h with items := (h.items ++ [gw d.post]).set h.items.length (aY n nx h.canc (bw (h.items ++ [gw d.post]) (gw d.post)) (gw d.post)) } { A with iB := some (aV g 0), iC := cap, its := A.its ++ [m7 X] } := h6
  rw [e6] at h7
  exact h7
 clear hk1 hk2 hto hD q1 q2 q3 q4 q5 q6
 go_wp2_with fail
 refine HCD.out.mono ?_
 rintro e w5 ⟨rfl, hw⟩
 have HWW := aB hw
 clear hw
 go_wp2_with fail
 exact bodyPost_end (results_none rfl _ _ _) rfl ⟨rfl, HWW.out⟩
def oU (l : Int) (i : Itm) : Itm := if i.line = l then { i with line := -1, leave := 0 } else i
def mQ (l : Int) (items : List Itm) (k : Nat) : List Itm := (items.take k).map (oU l) ++ items.drop k
theorem qq (l : Int) (items : List Itm) (k : Nat) : (mQ l items k)[k]? = items[k]? := by
 unfold mQ
 by_cases hk : k <= items.length
 ·rw [List.getElem?_append_right (by simp; omega)]
  simp [Nat.min_eq_left hk]
 ·rw [List.getElem?_eq_none (by simp; omega), List.getElem?_eq_none (by omega)]
theorem nT {l : Int} {items : List Itm} {k : Nat} {x : Itm} (h : items[k]? = some x) : mQ l items (k + 1) = (mQ l items k).set k (oU l x) := by
 obtain ⟨hk, rfl⟩ := aE.1 h
 have hl : ((items.take k).map (oU l)).length = k := by simp; omega
 unfold mQ
 rw [List.set_append_right _ _ (by omega), hl, Nat.sub_self, List.drop_eq_getElem_cons hk, List.take_succ_eq_append_getElem hk, List.map_append, List.set_cons_zero, List.append_assoc]
 rfl
theorem wL (l : Int) (items : List Itm) : mQ l items items.length = items.map (oU l) := by simp [mQ]
theorem rR (w W : World) (n : Net) (nx : List NsC) (nxA : Option Addr) (nxC : Nat) (h : Hst) (A : HsA) (d : Ded) (H : WdH w W n nx nxA nxC h A) (hl : I64 d.line) (hL : h.items.length <= 100000) (hk : d.kind = 5) :
  Calls Tryz.prog 98 #[.pointer (some (aV A.hb 0)), kF d] W fun e W' => e = .returned (.tuple #[]) /\ WdH w W' n nx nxA nxC (dR n nx h d) A := by
 have hb0 : Below W.heap.size W (W.alloc (an d)).drew := al (ba W (an d))
 have hx0 : (W.alloc (an d)).drew.heap[W.heap.size]? = some (an d) := aC W (an d)
 have H0 := H.below hb0
 obtain ⟨m, hm⟩ := H0.hs.can
 have c9 : (W.alloc (an d)).drew.cell? (aV A.hb 9) = some (.map (some A.cm)) := H0.hs.cell rfl
 have cL : (W.alloc (an d)).drew.cell? (aV W.heap.size 9) = some (iV d.line) := aA 9 hx0
 obtain ⟨W', hrun, hm', hg'⟩ := hm.store ky Tryz.underlying93 (dD d.line hl) (.bool true)
 have H1 := H0.canc hm' hg'
 have hcm : A.cm < W.heap.size := by
  obtain ⟨m2, hm2⟩ := H.hs.can
  exact hm2.lt
 have hx1 : W'.heap[W.heap.size]? = some (an d) := (hg'.block _ (aa hx0) (by simp; omega)).trans hx0
 have hact : dR n nx h d = { items := h.items.map (oU d.line), canc := d.line :: h.canc } := by
  unfold dR
  rw [if_neg (by omega), if_neg (by omega), if_neg (by omega), if_neg (by omega)]
  rfl
 rw [hact]
 have HH := aB H1
 have HX := aB hx1
 have HXA : Hid (∀ b ∈ A.all, b < W.heap.size) := fun b hb => (H.hs.lt b hb).2
 have HL := aB hL
 clear H1 hx1 hcm hm' hg' hm H0 hx0 hb0 H hact hk hL hl
 go_enter Tryz.func98, Tryz.ntmps98
 go_upto_region 1 with fail
 go_region
 generalize W.heap.size = X at *
 clear c9 cL hrun
 obtain ⟨ib, io, hI⟩ : ∃ ib io, ∀ k (a : ItA), A.its[k]? = some a -> A.iB = some (aV ib io) := by
  cases hq : A.its with
  | nil => exact ⟨0, 0, fun k a e => by first | (rw [hq] at e; simp at e) | (exact absurd (aF e) List.not_mem_nil)⟩
  | cons y l =>
   obtain ⟨b, off, hA, -, -⟩ := (cE HH.out.hs.row).get (i := 0) (by rw [hq]; simp)
   exact ⟨b, off, fun _ _ _ => hA⟩
 have c7 : W'.cell? (aV A.hb 7) = some (.slice A.iB h.items.length A.iC) := HH.out.hs.cell rfl
 have HI := aB hI
 clear hI
 go_wp2_with fail
 go_loopw [5, 17] (fun _ i wr => ∃ k : Nat, k <= h.items.length /\ i = iV k /\ Hid (WdH w wr n nx nxA nxC { items := mQ d.line h.items k, canc := d.line :: h.canc } A /\ wr.heap[X]? = some (an d))) (fun _ i _ => h.items.length + 1 - (intOf i).toNat)
 case atStart => exact ⟨0, Nat.zero_le _, rfl, aB ⟨HH.out, HX.out⟩⟩
 case round =>
 obtain ⟨k, hk, rfl, HR⟩ := hrel
 clear c7
 have j0 : (0 : Int) <= (k : Int) := by omega
 by_cases hlt : k < h.items.length
 case neg =>
  have j1 : ¬ (k : Int) < (h.items.length : Int) := by omega
  have he : k = h.items.length := by omega
  have HE := aB he
  clear he hlt hk
  go_wp2_with fail
  refine bodyPost_end (results_none rfl _ _ _) rfl ⟨rfl, ?_⟩
  have := HR.out.1
  rwa [HE.out, wL] at this
 have hk1 : k < A.its.length := by
  have := HR.out.1.hs.len
  rw [this]
  show k < (mQ d.line h.items k).length
  have h2 := qq d.line h.items k
  rw [aD hlt] at h2
  exact (aE.1 h2).1
 obtain ⟨x, hx⟩ : ∃ x, h.items[k]? = some x := ⟨_, aD hlt⟩
 obtain ⟨a, ha⟩ : ∃ a, A.its[k]? = some a := ⟨_, aD hk1⟩
 have hA := HI.out k a ha
 have hcx : (mQ d.line h.items k)[k]? = some x := (qq _ _ _).trans hx
 have hit := HR.out.1.hs.item k x a hcx ha
 have hbl := HR.out.1.hs.blks ha
 obtain ⟨lv, hlv, hlv2, hrow⟩ := hit.cells
 have p0 : wr.cell? (aV ib (io + k)) = some (.pointer (some (aV a.b 0))) := by
  obtain ⟨b, off, hB, -, hc⟩ := (cE HR.out.1.hs.row).get (i := k) (by simpa using hk1)
  have e : (some (aV b off) : Option Addr) = some (aV ib io) := hB.symm.trans hA
  cases e
  exact hc k _ (by rw [aS, ha]; rfl)
 have c11 : wr.cell? (aV a.b 11) = some (iV x.line) := aA 11 hrow
 have f11 : wr.frozen? (aV a.b 11) = false := ac hrow 11
 have cL : wr.cell? (aV X 9) = some (iV d.line) := aA 9 HR.out.2
 have j1 : (k : Int) < (h.items.length : Int) := by omega
 have HLT := aB hlt
 have HT := aB (⟨hx, ha, hcx, hit, hbl.1, hlv, hrow⟩ : h.items[k]? = some x /\ A.its[k]? = some a /\ (mQ d.line h.items k)[k]? = some x /\ cD w.heap.size wr x a /\ a.blks.Nodup /\ I64 lv /\ wr.heap[a.b]? = _)
 rw [hA]
 clear hA hx ha hcx hit hbl hlv hlv2 hrow hlt hk hk1
 go_upto_region 5 with fail
 go_quiet (fail)
 have HB : Hid (Below wr.heap.size wr (wr.drewN nq)) := ai (aJ _ _) nq
 change Exit.then _ _ _ _ (wr.drewN nq)
 generalize (wr.drewN nq) = w2 at *
 have HR2 := aB (HR.out.1.below HB.out)
 have hx2 := aB ((HB.out.block _ (aa HR.out.2)).trans HR.out.2)
 have hrow2 := (HB.out.block _ (aa HT.out.2.2.2.2.2.2)).trans HT.out.2.2.2.2.2.2
 have hit2 := HT.out.2.2.2.1.below HB.out
 have f11 : w2.frozen? (aV a.b 11) = false := ac hrow2 11
 have c11 : w2.cell? (aV a.b 11) = some (iV x.line) := aA 11 hrow2
 have e2 : IntKind.i64.wrap ((k : Int) + 1) = (k : Int) + 1 := aO _ (by have := HL.out; have := HLT.out; omega)
 have HT2 := aB (⟨hrow2, hit2⟩ : w2.heap[a.b]? = _ /\ cD w.heap.size w2 x a)
 clear hrow2 hit2 p0 cL
 by_cases hl : x.line = d.line
 ·have hb : (x.line == d.line) = true := by simpa using hl
  have HLE := aB hl
  rw [hb]
  clear hb hl
  go_wp2_with fail
  go_roundw
  case rel =>
   refine ⟨k + 1, HLT.out, by go_num, aB ?_⟩
   have hst := HT2.out.2.store (it' := { x with line := -1, leave := 0 }) (lv' := lv) HT2.out.1 HT.out.2.2.2.2.1 (i := 11) (v := iV (-1)) rfl rfl rfl rfl rfl ⟨HT.out.2.2.2.2.2.1, fun e => absurd (show (0 : Int) <= -1 from e) (by decide)⟩
   have hc : bz a.blks w2 (w2.setCell (aV a.b 11) (iV (-1))) := dW _ _ _ (by simp [ItA.blks])
   have hu := HR2.out.upd (it' := { x with line := -1, leave := 0 }) HT.out.2.2.1 HT.out.2.1 ⟨hst, hc, fun b hb => .inl hb, HT.out.2.2.2.2.1, rfl⟩ rfl
   rw [cO HT.out.2.1] at hu
   have hci : oU d.line x = { x with line := -1, leave := 0 } := by unfold oU; rw [if_pos HLE.out]
   rw [nT HT.out.1, hci]
   refine ⟨hu, (hc.block _ (aa hx2.out) ?_).trans hx2.out⟩
   intro hb
   have := HXA.out X (aP _ (List.mem_flatMap.2 ⟨a, aF HT.out.2.1, hb⟩))
   omega
  case measure => have := HLT.out; simp [intOf]; omega
 ·have hb : (x.line == d.line) = false := by simpa using hl
  have HLE := aB hl
  rw [hb]
  clear hb hl
  go_wp2_with fail
  go_roundw
  case rel =>
   refine ⟨k + 1, HLT.out, by go_num, aB ?_⟩
   have hci : oU d.line x = x := by unfold oU; rw [if_neg HLE.out]
   rw [nT HT.out.1, hci, cO HT.out.2.2.1]
   exact ⟨HR2.out, hx2.out⟩
  case measure => have := HLT.out; simp [intOf]; omega
theorem qc {items : List Itm} (hn : (items.map fun i => i.post.label).Nodup) {i j : Nat} {x y : Itm} (h1 : items[i]? = some x) (h2 : items[j]? = some y) (e : x.post.label = y.post.label) : i = j := by
 obtain ⟨g1, e1⟩ := aE.1 h1
 obtain ⟨g2, e2⟩ := aE.1 h2
 refine (List.getElem_inj (h₀ := by simpa using g1) (h₁ := by simpa using g2) hn).1 ?_
 simp [e1, e2, e]
theorem vK {items : List Itm} {i j : Nat} {a b : Itm} {l m : List UInt8} (hn : (items.map fun i => i.post.label).Nodup) (ha : items[i]? = some a) (hb : items[j]? = some b) (la : a.post.label = l) (lb : b.post.label = m) (hne : l ≠ m) (f g : Itm -> Itm) :
  (items.map fun x => if x.post.label == l then f x else if x.post.label == m then g x else x) = (items.set i (f a)).set j (g b) := by
 have hij : i ≠ j := fun e => hne (by subst e; rw [ha] at hb; cases hb; rw [<- la, <- lb])
 apply List.ext_getElem?
 intro k
 rw [aS, List.getElem?_set, List.length_set]
 by_cases hjk : j = k
 ·subst hjk
  rw [if_pos rfl, if_pos (aE.1 hb).1, hb]
  have : ¬ m = l := fun e => hne e.symm
  simp [this, lb]
 ·rw [if_neg hjk, List.getElem?_set]
  by_cases hik : i = k
  ·subst hik
   rw [if_pos rfl, if_pos (aE.1 ha).1, ha]
   simp [la]
  ·rw [if_neg hik]
   cases hx : items[k]? with
   | none => rfl
   | some x =>
    have h1 : ¬ x.post.label = l := fun e => hik (qc hn ha hx (by rw [la, e]))
    have h2 : ¬ x.post.label = m := fun e => hjk (qc hn hb hx (by rw [lb, e]))
    simp [h1, h2]
end Go.Proofs.YtpeaiphdkgifaaaGreatDoor
