/-
  The text of a track tells the track, in plain Lean. Deeds that are well-formed, and clean items, in plain Lean. What the examples come to, in plain Lean. The walk over post. The walk over cancel. Two items turn, in plain Lean.
-/
import Derived.Test.YtpeaiphdkgifaaaGreatDoorWbc
import Derived.Test.YtpeaiphdkgifaaaGreatDoorWam
import Derived.Deep.AppendLies
namespace Go.Proofs.YtpeaiphdkgifaaaGreatDoor
open Go.RowKit
set_option maxHeartbeats 20000000
set_option maxRecDepth 100000
def joinB : List (List UInt8) -> List UInt8
 | [] => []
 | w :: ws => w ++ ws.flatMap fun x => 32 :: x
def splitB : List UInt8 -> List (List UInt8)
 | [] => [[]]
 | c :: l => if c = 32 then [] :: splitB l else match splitB l with
  | [] => [[c]]
  | w :: ws => (c :: w) :: ws
theorem split_word (w : List UInt8) (hw : ∀ c ∈ w, c ≠ 32) (r : List UInt8) (x : List UInt8) (xs : List (List UInt8)) (h : splitB r = x :: xs) : splitB (w ++ r) = (w ++ x) :: xs := by
 induction w with
 | nil => exact h
 | cons c w ih =>
  have := ih (fun d hd => hw d (List.mem_cons_of_mem _ hd))
  rw [List.cons_append, splitB, if_neg (hw c (List.mem_cons_self ..)), this]
  rfl
theorem split_rest : ∀ (ws : List (List UInt8)), (∀ w ∈ ws, ∀ c ∈ w, c ≠ 32) -> splitB (ws.flatMap fun x => 32 :: x) = [] :: ws
 | [], _ => rfl
 | w :: ws, h => by
  have ih := split_rest ws (fun x hx => h x (List.mem_cons_of_mem _ hx))
  rw [List.flatMap_cons, List.cons_append, splitB, if_pos rfl, split_word w (h w (List.mem_cons_self ..)) _ [] ws ih, List.append_nil]
theorem split_join {ws : List (List UInt8)} (hne : ws ≠ []) (h : ∀ w ∈ ws, ∀ c ∈ w, c ≠ 32) : splitB (joinB ws) = ws := by
 cases ws with
 | nil => exact absurd rfl hne
 | cons w ws =>
  have ih := split_rest ws (fun x hx => h x (List.mem_cons_of_mem _ hx))
  rw [joinB, split_word w (h w (List.mem_cons_self ..)) _ [] ws ih, List.append_nil]
theorem join_inj {a b : List (List UInt8)} (ha : a ≠ []) (hb : b ≠ []) (h1 : ∀ w ∈ a, ∀ c ∈ w, c ≠ 32) (h2 : ∀ w ∈ b, ∀ c ∈ w, c ≠ 32) (h : joinB a = joinB b) : a = b := by
 rw [<- split_join ha h1, <- split_join hb h2, h]
def valD (l : List UInt8) : Nat := l.foldl (fun a c => 10 * a + (c.toNat - 48)) 0
theorem digit_val {d : Nat} (h : d < 10) : (UInt8.ofNat (48 + d)).toNat - 48 = d := by
 rw [UInt8.toNat_ofNat']
 omega
theorem valD_dec (u : Nat) : valD (Lib.decDigits u) = u := by
 induction u using Nat.strongRecOn with
 | _ u ih =>
  rw [Lib.decDigits]
  split
  ·rename_i h
   show 10 * 0 + ((UInt8.ofNat (48 + u)).toNat - 48) = u
   rw [digit_val h]
   omega
  ·rename_i h
   have := ih (u / 10) (by omega)
   unfold valD at this ⊢
   rw [List.foldl_append, this]
   show 10 * (u / 10) + ((UInt8.ofNat (48 + u % 10)).toNat - 48) = u
   rw [digit_val (by omega)]
   omega
theorem dig_range (u : Nat) : ∀ c ∈ Lib.decDigits u, 48 <= c.toNat /\ c.toNat <= 57 := by
 induction u using Nat.strongRecOn with
 | _ u ih =>
  intro c hc
  rw [Lib.decDigits] at hc
  split at hc
  ·rename_i h
   rw [List.mem_singleton.1 hc, UInt8.toNat_ofNat']
   omega
  ·rename_i h
   rcases List.mem_append.1 hc with hc | hc
   ·exact ih (u / 10) (by omega) c hc
   ·rw [List.mem_singleton.1 hc, UInt8.toNat_ofNat']
    omega
theorem itoa_char {n : Int} : ∀ c ∈ Lib.itoa n, c ≠ 32 := by
 intro c hc e
 subst e
 unfold Lib.itoa at hc
 split at hc
 ·rcases List.mem_cons.1 hc with h | h
  ·cases h
  ·have := dig_range _ _ h
   simp at this
 ·have := dig_range _ _ hc
  simp at this
theorem itoa_inj {a b : Int} (h : Lib.itoa a = Lib.itoa b) : a = b := by
 have hd : ∀ u v : Nat, Lib.decDigits u = Lib.decDigits v -> u = v := fun u v e => by rw [<- valD_dec u, <- valD_dec v, e]
 have hno : ∀ u v : Nat, 45 :: Lib.decDigits u ≠ Lib.decDigits v := fun u v e => by
  have := dig_range v 45 (by rw [<- e]; exact List.mem_cons_self ..)
  simp at this
 unfold Lib.itoa at h
 split at h
 ·split at h
  ·have := hd _ _ (List.cons.inj h).2
   omega
  ·exact absurd h (hno _ _)
 ·split at h
  ·exact absurd h.symm (hno _ _)
  ·have := hd _ _ h
   omega
def boolW (b : Bool) : List UInt8 := if b then [116, 114, 117, 101] else [102, 97, 108, 115, 101]
def stopW (s : St) : List (List UInt8) := [Lib.itoa s.office, Lib.itoa s.arrive, Lib.itoa s.depart, Lib.itoa s.line]
def wordsI (it : Itm) : List (List UInt8) := boolW it.lost :: Lib.itoa it.stops.length :: Lib.itoa it.since.length :: (it.stops.flatMap stopW ++ (it.since.map Lib.itoa ++ (it.labs ++ it.seals)))
theorem stopW_inj : ∀ {l m : List St}, l.length = m.length -> l.flatMap stopW = m.flatMap stopW -> l = m
 | [], [], _, _ => rfl
 | [], _ :: _, h, _ => by simp at h
 | _ :: _, [], h, _ => by simp at h
 | a :: l, b :: m, h, e => by
  simp only [List.flatMap_cons, stopW, List.cons_append, List.nil_append, List.cons.injEq] at e
  obtain ⟨e1, e2, e3, e4, e5⟩ := e
  have := stopW_inj (l := l) (m := m) (by simpa using h) e5
  cases a
  cases b
  simp only at e1 e2 e3 e4
  rw [itoa_inj e1, itoa_inj e2, itoa_inj e3, itoa_inj e4, this]
theorem itoas_inj : ∀ {l m : List Int}, l.map Lib.itoa = m.map Lib.itoa -> l = m
 | [], [], _ => rfl
 | [], _ :: _, h => by simp at h
 | _ :: _, [], h => by simp at h
 | a :: l, b :: m, h => by
  simp only [List.map_cons, List.cons.injEq] at h
  rw [itoa_inj h.1, itoas_inj h.2]
theorem stopW_len (l : List St) : (l.flatMap stopW).length = 4 * l.length := by
 induction l with
 | nil => rfl
 | cons a l ih => rw [List.flatMap_cons, List.length_append, ih]; simp [stopW]; omega
theorem lab_char {l : List UInt8} (h : labB l = true) : ∀ c ∈ l, c ≠ 32 := by
 intro c hc e
 subst e
 unfold labB at h
 simp only [Bool.and_eq_true, List.all_eq_true] at h
 have := h.1.1 32 hc
 simp at this
theorem seal_char {a b : Int} : ∀ c ∈ sealB a b, c ≠ 32 := by
 intro c hc
 unfold sealB at hc
 rcases List.mem_cons.1 hc with rfl | hc
 ·decide
 ·rcases List.mem_append.1 hc with hc | hc
  ·exact itoa_char c hc
  ·rcases List.mem_cons.1 hc with rfl | hc
   ·decide
   ·exact itoa_char c hc
theorem path_seals {n : Net} : ∀ {l : List St} {es : List (List UInt8)}, PathOk n l es -> ∀ e ∈ es, ∃ a b, e = sealB a b
 | [_], [], _, e, he => by cases he
 | _ :: b :: l, x :: es, h, e, he => by
  rcases List.mem_cons.1 he with rfl | he
  ·exact ⟨_, _, h.1.seal_⟩
  ·exact path_seals h.2 e he
theorem words_char {n : Net} {it : Itm} (hi : ItOk n it) (hl : ∀ l ∈ it.labs, labB l = true) : ∀ w ∈ wordsI it, ∀ c ∈ w, c ≠ 32 := by
 intro w hw
 unfold wordsI at hw
 simp only [List.mem_cons, List.mem_append] at hw
 rcases hw with rfl | rfl | rfl | hw | hw | hw | hw
 ·intro c hc
  unfold boolW at hc
  split at hc
  ·simp at hc
   rcases hc with rfl | rfl | rfl | rfl <;> decide
  ·simp at hc
   rcases hc with rfl | rfl | rfl | rfl | rfl <;> decide
 ·exact itoa_char
 ·exact itoa_char
 ·obtain ⟨s, -, hs⟩ := List.mem_flatMap.1 hw
  simp only [stopW, List.mem_cons, List.not_mem_nil, or_false] at hs
  rcases hs with rfl | rfl | rfl | rfl <;> exact itoa_char
 ·obtain ⟨t, -, rfl⟩ := List.mem_map.1 hw
  exact itoa_char
 ·exact lab_char (hl w hw)
 ·obtain ⟨a, b, rfl⟩ := path_seals hi.path w hw
  exact seal_char
theorem text_inj {n : Net} {x y : Itm} (hx : ItOk n x) (hy : ItOk n y) (lx : ∀ l ∈ x.labs, labB l = true) (ly : ∀ l ∈ y.labs, labB l = true) (h : joinB (wordsI x) = joinB (wordsI y)) : x.lost = y.lost /\ x.stops = y.stops /\ x.since = y.since /\ x.labs = y.labs /\ x.seals = y.seals := by
 have e := join_inj (by unfold wordsI; simp) (by unfold wordsI; simp) (words_char hx lx) (words_char hy ly) h
 unfold wordsI at e
 simp only [List.cons.injEq] at e
 obtain ⟨e1, e2, e3, e4⟩ := e
 have h1 : x.stops.length = y.stops.length := by have := itoa_inj e2; omega
 have h2 : x.since.length = y.since.length := by have := itoa_inj e3; omega
 obtain ⟨f1, f2⟩ := List.append_inj e4 (by rw [stopW_len, stopW_len, h1])
 obtain ⟨f3, f4⟩ := List.append_inj f2 (by simp [h2])
 obtain ⟨f5, f6⟩ := List.append_inj f4 (by rw [<- hx.labs.1, <- hy.labs.1, h2])
 refine ⟨?_, stopW_inj h1 f1, itoas_inj f3, f5, f6⟩
 unfold boolW at e1
 cases hl : x.lost <;> cases hm : y.lost <;> simp [hl, hm] at e1 ⊢
theorem deds_snoc {n : Net} {d : Ded} : ∀ {ds bef : List Ded} {t : Int}, DedsOk n bef t ds -> t <= d.time -> (∀ e ∈ ds, e.time <= d.time) -> d.time <= 1000000 -> DedOk n (bef ++ ds) d -> DedsOk n bef t (ds ++ [d])
 | [], bef, t, _, ht, _, h6, hd => by
  rw [List.append_nil] at hd
  exact ⟨ht, h6, hd, trivial⟩
 | e :: ds, bef, t, h, ht, hall, h6, hd => by
  obtain ⟨h1, h2, h3, h4⟩ := h
  refine ⟨h1, h2, h3, deds_snoc h4 (hall e (List.mem_cons_self ..)) (fun x hx => hall x (List.mem_cons_of_mem _ hx)) h6 ?_⟩
  rw [List.append_assoc]
  exact hd
theorem deds_take {n : Net} {ds : List Ded} : ∀ (m : Nat), m <= ds.length -> (∀ i d, i < m -> ds[i]? = some d -> 0 <= d.time /\ d.time <= 1000000 /\ (∀ e, 0 < i -> ds[i - 1]? = some e -> e.time <= d.time) /\ DedOk n (ds.take i) d) -> DedsOk n [] 0 (ds.take m) /\ ∀ e ∈ ds.take m, ∀ x, 0 < m -> ds[m - 1]? = some x -> e.time <= x.time
 | 0, _, _ => ⟨trivial, fun e he => by simp at he⟩
 | m + 1, hm, h => by
  obtain ⟨a, b⟩ := deds_take m (by omega) (fun i d hi hd => h i d (by omega) hd)
  obtain ⟨d, hd⟩ : ∃ d, ds[m]? = some d := ⟨_, List.getElem?_eq_getElem (by omega)⟩
  obtain ⟨h1, h2, h3, h4⟩ := h m d (by omega) hd
  have e1 : ds.take (m + 1) = ds.take m ++ [d] := by rw [List.take_add_one, hd]; rfl
  have hall : ∀ e ∈ ds.take m, e.time <= d.time := fun e he => by
   cases m with
   | zero => simp at he
   | succ k =>
    obtain ⟨x, hx⟩ : ∃ x, ds[k]? = some x := ⟨_, List.getElem?_eq_getElem (by omega)⟩
    have h5 := b e he x (by omega) (by simpa using hx)
    have h6 := h3 x (by omega) (by simpa using hx)
    omega
  rw [e1]
  refine ⟨deds_snoc a h1 hall h2 (by simpa using h4), fun e he x _ hx => ?_⟩
  rw [Nat.add_sub_cancel, hd] at hx
  cases hx
  rcases List.mem_append.1 he with he | he
  ·exact hall e he
  ·rw [List.mem_singleton.1 he]
   exact Int.le_refl _
theorem deds_all {n : Net} {ds : List Ded} (h : ∀ i d, i < ds.length -> ds[i]? = some d -> 0 <= d.time /\ d.time <= 1000000 /\ (∀ e, 0 < i -> ds[i - 1]? = some e -> e.time <= d.time) /\ DedOk n (ds.take i) d) : DedsOk n [] 0 ds := by
 have := (deds_take ds.length (Nat.le_refl _) h).1
 rwa [List.take_of_length_le (Nat.le_refl _)] at this
def postD (p : Pst) : Ded := ⟨1, p.acc, p, [], [], 0⟩
theorem postD_ok {n : Net} {p : Pst} (h : PstOk n p) : DedsOk n [] 0 [postD p] :=
 ⟨h.2.2.2.2.1, h.2.2.2.2.2, .inl ⟨rfl, h.1, by simp [postedL], h.2.1, h.2.2.1, h.2.2.2.1, rfl⟩, trivial⟩
theorem labs_posted {n : Net} {nx : List NsC} {ds : List Ded} {t : Int} {h : Hst} (H : HsOk n nx ds t h) {it : Itm} (hi : it ∈ h.items) : ∀ l ∈ it.labs, labB l = true := fun l hl => by
 obtain ⟨j, hj, e⟩ := H.labs it hi l hl
 rw [<- e]
 exact (H.pst j hj).1
theorem ok_one8 {α : Type} {nm : Nat -> List UInt8} {gd : α -> Bool} {x : α} (h1 : nameB (nm 0) = true) (h2 : gd x = true) : ∀ i < [x].length, okAt nm gd [x] i := by
 intro i hi
 obtain rfl : i = 0 := by simpa using hi
 exact ⟨h1, rfl, fun y hy => by cases hy; exact h2⟩
theorem ok_two8 {α : Type} {nm : Nat -> List UInt8} {gd : α -> Bool} {x y : α} (h1 : nameB (nm 0) = true) (h2 : gd x = true) (h3 : nameB (nm 1) = true) (h4 : gd y = true) (h5 : freshB nm 1 = true) : ∀ i < [x, y].length, okAt nm gd [x, y] i := by
 intro i hi
 have : i = 0 ∨ i = 1 := by simp at hi; omega
 rcases this with rfl | rfl
 ·exact ⟨h1, rfl, fun z hz => by cases hz; exact h2⟩
 ·exact ⟨h3, h5, fun z hz => by cases hz; exact h4⟩
def exCalW (wA : Option Addr) : Cal := ⟨0, [true, true, true, true, true, false, false], wA, 7, [], none, 0⟩
def exOffW (x : UInt8) : Off := ⟨[x], 0, 0, 2, 1, 10, [], none, 0⟩
def exW (wA a1 a2 a3 a4 a5 a6 : Option Addr) : Net :=
 { cals := [exCalW wA], calA := a1, calC := 1, names := [[99]], namA := a2, namC := 1, ops := [[112]], opA := a3, opC := 1, offs := [exOffW 97, exOffW 98], offA := a4, offC := 2, lins := [⟨[108], 0, 1, 480, 120, 1⟩, ⟨[109], 1, 0, 600, 60, 1⟩], linA := a5, linC := 2, clss := [⟨[107], 1020, 720⟩], clsA := a6, clsC := 1 }
def exNxW (A B : Option Addr) : List NsC := [⟨[-1, 0], A, 2⟩, ⟨[1, -1], B, 2⟩]
def postA : Ded := ⟨1, 100, ⟨[65], 0, 1, 0, 100⟩, [], [], 0⟩
def holdA : Ded := ⟨3, 300, ⟨[], 0, 0, 0, 0⟩, [65], [], 0⟩
def loseA (t : Int) : Ded := ⟨2, t, ⟨[], 0, 0, 0, 0⟩, [65], [], 0⟩
def postB : Ded := ⟨1, 100, ⟨[66], 0, 0, 0, 100⟩, [], [], 0⟩
def swapAB : Ded := ⟨4, 200, ⟨[], 0, 0, 0, 0⟩, [65], [66], 0⟩
section
variable (wA a1 a2 a3 a4 a5 a6 A B : Option Addr)
theorem exw_1 : runR (exW wA a1 a2 a3 a4 a5 a6) (exNxW A B) [postA] = some ⟨[⟨postA.post, [⟨0, 100, 480, 0⟩, ⟨1, 600, -1, -1⟩], false, [100], [[65]], [sealB 0 480], 0, -1, 0⟩], []⟩ := by kernel_rfl
theorem exw_2 : runR (exW wA a1 a2 a3 a4 a5 a6) (exNxW A B) [postA, holdA] = some ⟨[⟨postA.post, [⟨0, 100, 1920, 0⟩, ⟨1, 2040, -1, -1⟩], false, [100], [[65]], [sealB 0 1920], 0, -1, 0⟩], []⟩ := by kernel_rfl
theorem exw_3 : runR (exW wA a1 a2 a3 a4 a5 a6) (exNxW A B) [postA, loseA 480] = some ⟨[⟨postA.post, [⟨0, 100, -1, -1⟩], true, [100], [[65]], [], 0, -1, 0⟩], []⟩ := by kernel_rfl
theorem exw_4 : runR (exW wA a1 a2 a3 a4 a5 a6) (exNxW A B) [postA, loseA 481] = some ⟨[⟨postA.post, [⟨0, 100, 480, 0⟩, ⟨1, 600, -1, -1⟩], true, [100], [[65]], [sealB 0 480], 0, -1, 0⟩], []⟩ := by kernel_rfl
theorem exw_5 : runR (exW wA a1 a2 a3 a4 a5 a6) (exNxW A B) [postA, postB, swapAB] = some ⟨[⟨postA.post, [⟨0, 100, -1, -1⟩], false, [100, 200], [[65], [66]], [], 0, -1, 0⟩, ⟨postB.post, [⟨0, 100, 480, 0⟩, ⟨1, 600, -1, -1⟩], false, [100, 200], [[66], [65]], [sealB 0 480], 0, -1, 0⟩], []⟩ := by kernel_rfl
theorem exw_cons : Cons (exW wA a1 a2 a3 a4 a5 a6) :=
 ⟨rfl, ⟨by show 1 <= 6; decide, ok_one8 (by kernel_rfl) (by kernel_rfl)⟩, ⟨by show 1 <= 6; decide, ok_one8 (by kernel_rfl) (by kernel_rfl)⟩,
  ⟨by show 2 <= 12; decide, ok_two8 (by kernel_rfl) (by kernel_rfl) (by kernel_rfl) (by kernel_rfl) (by kernel_rfl)⟩,
  ⟨by show 2 <= 40; decide, ok_two8 (by kernel_rfl) (by kernel_rfl) (by kernel_rfl) (by kernel_rfl) (by kernel_rfl)⟩,
  ⟨by show 1 <= 4; decide, ok_one8 (by kernel_rfl) (by kernel_rfl)⟩⟩
theorem exw_sound : Sound (exW wA a1 a2 a3 a4 a5 a6) := by
 refine ⟨exw_cons wA a1 a2 a3 a4 a5 a6, fun b hb a ha => ?_⟩
 have hE := edges_in (exw_cons wA a1 a2 a3 a4 a5 a6).lins
 have hb2 : b < 2 := hb
 have ha2 : a < 2 := ha
 have key : ∃ L, Wlk (edgesOf (exW wA a1 a2 a3 a4 a5 a6)) a b L := by
  have e1 : (0, 1, (120 : Int)) ∈ edgesOf (exW wA a1 a2 a3 a4 a5 a6) := by simp [edgesOf, exW]
  have e2 : (1, 0, (60 : Int)) ∈ edgesOf (exW wA a1 a2 a3 a4 a5 a6) := by simp [edgesOf, exW]
  rcases (by omega : a = 0 ∨ a = 1) with rfl | rfl
  ·rcases (by omega : b = 0 ∨ b = 1) with rfl | rfl
   ·exact ⟨_, .nil 0⟩
   ·exact ⟨_, .cons e1 (.nil 1)⟩
  ·rcases (by omega : b = 0 ∨ b = 1) with rfl | rfl
   ·exact ⟨_, .cons e2 (.nil 0)⟩
   ·exact ⟨_, .nil 1⟩
 obtain ⟨L, hL⟩ := key
 exact (dist_le (by omega) hE (by omega) (by omega) hL).1
theorem exw_formed : Formed (exW wA a1 a2 a3 a4 a5 a6) (exNxW A B) := by
 refine ⟨rfl, fun o ho => ?_⟩
 have ho2 : o < 2 := ho
 rcases (by omega : o = 0 ∨ o = 1) with rfl | rfl
 ·refine ⟨_, rfl, rfl, fun l hl => ?_⟩
  have : l = -1 ∨ l = 0 := by simpa using hl
  rcases this with rfl | rfl
  ·exact .inl rfl
  ·exact .inr ⟨by decide, by show (0 : Int) < 2; decide, rfl⟩
 ·refine ⟨_, rfl, rfl, fun l hl => ?_⟩
  have : l = 1 ∨ l = -1 := by simpa using hl
  rcases this with rfl | rfl
  ·exact .inr ⟨by decide, by show (1 : Int) < 2; decide, rfl⟩
  ·exact .inl rfl
theorem exw_okA : DedOk (exW wA a1 a2 a3 a4 a5 a6) [] postA := .inl ⟨rfl, by decide, by simp [postedL], ⟨by decide, by show (0 : Int) < 2; decide⟩, ⟨by decide, by show (1 : Int) < 2; decide⟩, ⟨by decide, by show (0 : Int) < 1; decide⟩, rfl⟩
theorem exw_d1 : DedsOk (exW wA a1 a2 a3 a4 a5 a6) [] 0 [postA] := ⟨by decide, by decide, exw_okA .., trivial⟩
theorem exw_d2 : DedsOk (exW wA a1 a2 a3 a4 a5 a6) [] 0 [postA, holdA] := ⟨by decide, by decide, exw_okA .., by decide, by decide, .inr (.inl ⟨.inr rfl, by decide⟩), trivial⟩
theorem exw_d3 {t : Int} (h1 : 100 <= t) (h2 : t <= 1000000) : DedsOk (exW wA a1 a2 a3 a4 a5 a6) [] 0 [postA, loseA t] := ⟨by decide, by decide, exw_okA .., h1, h2, .inr (.inl ⟨.inl rfl, by show [65] ∈ postedL [postA]; decide⟩), trivial⟩
theorem exw_d5 : DedsOk (exW wA a1 a2 a3 a4 a5 a6) [] 0 [postA, postB, swapAB] :=
 ⟨by decide, by decide, exw_okA .., by decide, by decide, .inl ⟨rfl, by decide, by decide, ⟨by decide, by show (0 : Int) < 2; decide⟩, ⟨by decide, by show (0 : Int) < 2; decide⟩, ⟨by decide, by show (0 : Int) < 1; decide⟩, rfl⟩, by decide, by decide, .inr (.inr (.inl ⟨rfl, by decide, by decide, by decide⟩)), trivial⟩
theorem exw_s : sealB 0 480 = [67, 48, 46, 52, 56, 48] := by
 unfold sealB
 have h1 : Lib.itoa 0 = [48] := by unfold Lib.itoa; rw [if_neg (by decide)]; exact Lib.decDigits_one (by decide)
 have h2 : Lib.itoa 480 = [52, 56, 48] := by
  unfold Lib.itoa
  rw [if_neg (by decide), Lib.decDigits, dif_neg (by decide)]
  show Lib.decDigits 48 ++ _ = _
  rw [Lib.decDigits_two (by decide) (by decide)]
  rfl
 rw [h1, h2]
 rfl
end
theorem intTInf : (Tryz.prog.info? 3).map (fun i => (i.zero, i.size, i.bytes)) = some (some (.int .i64 0), 1, 8) := by kernel_rfl
theorem strTInf : (Tryz.prog.info? 9).map (fun i => (i.zero, i.size, i.bytes)) = some (some (.string ⟨#[]⟩), 1, 16) := by kernel_rfl
def new0 (p : Pst) : Itm := { newI p with line := 0 }
theorem itPInf : (Tryz.prog.info? 101).map (fun i => (i.zero, i.size, i.bytes)) = some (some (.pointer none), 1, 8) := by kernel_rfl
abbrev newB (d : Ded) (X : Nat) : List Obj := [dedO d, .cells #[iV d.post.frm, iV d.post.acc, iV (-1), iV (-1)] 50, .cells #[iV d.post.acc] 3, .cells #[sV d.post.label] 9,
 .cells #[sV d.post.label, iV d.post.frm, iV d.post.dst, iV d.post.cls, iV d.post.acc, .slice (some ⟨X + 1, 0, none⟩) 1 1, .bool false, .slice (some ⟨X + 1 + 1, 0, none⟩) 1 1, .slice (some ⟨X + 1 + 1 + 1, 0, none⟩) 1 1, .slice none 0 0, iV 0, iV 0, iV 0] 103]
abbrev newA (X : Nat) : ItA := ⟨X + 1 + 1 + 1 + 1, X + 1, 1, X + 1 + 1, 1, X + 1 + 1 + 1, 1, none, 0⟩
theorem newA_in (base : Nat) (d : Ded) (W : World) (hb : base <= W.heap.size) : ItIn base (allocs W (newB d W.heap.size)) (new0 d.post) (newA W.heap.size) := by
 have hg := allocs_get (newB d W.heap.size) W
 have g1 : (allocs W (newB d W.heap.size)).heap[W.heap.size + 1]? = some _ := hg 1 _ rfl
 have g2 : (allocs W (newB d W.heap.size)).heap[W.heap.size + 1 + 1]? = some _ := hg 2 _ rfl
 have g3 : (allocs W (newB d W.heap.size)).heap[W.heap.size + 1 + 1 + 1]? = some _ := hg 3 _ rfl
 have g4 : (allocs W (newB d W.heap.size)).heap[W.heap.size + 1 + 1 + 1 + 1]? = some _ := hg 4 _ rfl
 have r1 : (allocs W (newB d W.heap.size)).ownsRow base 50 4 (.slice (some ⟨W.heap.size + 1, 0, none⟩) (1 : Nat) 1) 1 (encSt ⟨d.post.frm, d.post.acc, -1, -1⟩) := own_block g1 (by omega) rfl (by decide) rfl
 have r2 : (allocs W (newB d W.heap.size)).ownsRow base 3 1 (.slice (some ⟨W.heap.size + 1 + 1, 0, none⟩) (1 : Nat) 1) 1 [iV d.post.acc] := own_block g2 (by omega) rfl (by decide) rfl
 have r3 : (allocs W (newB d W.heap.size)).ownsRow base 9 1 (.slice (some ⟨W.heap.size + 1 + 1 + 1, 0, none⟩) (1 : Nat) 1) 1 [sV d.post.label] := own_block g3 (by omega) rfl (by decide) rfl
 exact ⟨⟨0, i64_small (by decide) (by decide), fun _ => rfl, g4⟩, by show base <= W.heap.size + 1 + 1 + 1 + 1; omega, r1, r2, r3, ⟨rfl, .inl ⟨rfl, rfl⟩⟩⟩
theorem post_any (w W : World) (n : Net) (nx : List NsC) (nxA : Option Addr) (nxC : Nat) (h : Hst) (A : HsA) (d : Ded) (hS : Sound n) (hF : Formed n nx) (H : WdH w W n nx nxA nxC h A) (hp : PstOk n d.post) (hlab : d.post.label ∉ h.items.map fun i => i.post.label) (hL : h.items.length <= 1000) (hk : d.kind = 1) :
  Calls Tryz.prog 94 #[.pointer (some ⟨A.hb, 0, none⟩), dedV d] W fun e W' => e = .returned (.tuple #[]) /\ ∃ A', WdH w W' n nx nxA nxC (actR n nx h d) A' /\ A'.core = A.core := by
 obtain ⟨i0, hi0, hz0, hz1, hz2⟩ := info_parts itPInf
 have hB := allocs_below (newB d W.heap.size) W
 have hg := allocs_get (newB d W.heap.size) W
 have hsz := allocs_size (newB d W.heap.size) W
 have hnew := newA_in w.heap.size d W H.bel.size
 have H1 := H.below hB
 have g0 : (allocs W (newB d W.heap.size)).heap[W.heap.size]? = some (dedO d) := hg 0 _ rfl
 have x2 : (W.alloc (dedO d)).cell? ⟨W.heap.size, 2, none⟩ = some (sV d.post.label) := cell_of_row _ _ 2 _ _ _ (heap_alloc_new W (dedO d))
 have HW := Lib.hid H
 have HWb := Lib.hid hB
 have HN0 := Lib.hid hnew
 have HP := Lib.hid hp
 have HLB := Lib.hid hlab
 have HF := Lib.hid hF
 have hact : actR n nx h d = { h with items := h.items ++ [decideI n nx h.canc d.post.dst (newI d.post)] } := by
  unfold actR
  rw [if_pos hk]
 have HAC := Lib.hid hact
 have hll : d.post.label.length <= 20 := by
  have := hp.1
  unfold labB at this
  simp only [Bool.and_eq_true, decide_eq_true_eq] at this
  exact this.2
 have HLL := Lib.hid hll
 have HLT : Hid (∀ b ∈ A.all, b < W.heap.size) := fun b hb => (H.hs.lt b hb).2
 clear hk hact hll hp hlab
 go_enter Tryz.func94, Tryz.ntmps94
 go_upto_region 2 with fail
 change Code.wp _ _ _ _ (allocs W (newB d W.heap.size))
 clear x2 hg hB hnew H hF
 have hsz5 : (allocs W (newB d W.heap.size)).heap.size = W.heap.size + 5 := hsz
 clear hsz
 generalize allocs W (newB d W.heap.size) = W1 at *
 have c7 : W1.cell? ⟨A.hb, 7, none⟩ = some (.slice A.iB h.items.length A.iC) := H1.hs.cell rfl
 have HR := Lib.hid H1.hs.row
 have HH1 := Lib.hid H1
 have HG0 := Lib.hid g0
 have HSZ := Lib.hid hsz5
 have HAP := Lib.hid H1.hs.apart
 have HLE : Hid (w.heap.size <= W1.heap.size) := H1.bel.size
 clear H1 g0 hsz5
 obtain ⟨X, hX⟩ : ∃ X, W.heap.size = X := ⟨_, rfl⟩
 rw [hX]
 have HX := Lib.hid hX
 clear hX
 go_wp2_with (at_builtin; go_loud (refine wpList_append_lies _ rfl _ _ _ rfl w.heap.size 101 i0 _ 1 8 Tryz.underlying94 hi0 hz0 hz1 hz2 rfl (by omega) _ _ _ rfl (own_below HR.out (ba W1 _)) ⟨W1.heap.size, 0, none⟩ 1 1 [.pointer (some ⟨X + 1 + 1 + 1 + 1, 0, none⟩)] rfl rfl (fun j u hu => by rw [add_at, Nat.zero_add]; exact (cell_of_row _ _ j _ _ _ (heap_alloc_new W1 (.cells #[.pointer (some ⟨X + 1 + 1 + 1 + 1, 0, none⟩)] 101))).trans (by simpa using hu)) (fun u hu => by simp at hu; subst hu; rfl) (by omega) (by unfold maxLen; omega) (by omega) (by have := HLE.out; simp; omega) (W1.heap.size + 1) (by simp) ?_; intro g cap w2 own1 hgrow hat hlt; have hgrow2 : (W1.alloc (.cells #[.pointer (some ⟨X + 1 + 1 + 1 + 1, 0, none⟩)] 101)).grownBy w2 (A.iB.map (·.block)) := (by have h9 : (W1.alloc (.cells #[.pointer (some ⟨X + 1 + 1 + 1 + 1, 0, none⟩)] 101)).grownBy w2 (Value.ownBlock (.slice A.iB h.items.length A.iC)) := hgrow; rw [ownB_slice] at h9; exact h9); have hb2 : w2.heap[A.hb]? = W1.heap[A.hb]? := (hgrow2.block _ (by have := block_lt HH1.out.hs.blk; simp; omega) (fun e => (HAP.out.2.2.2 _ e.symm).1 rfl)).trans (Below.heap_alloc _ _ _ (block_lt HH1.out.hs.blk)); have hk2 := hb2.trans HH1.out.hs.blk; have d7 : w2.cell? ⟨A.hb, 7, none⟩ = some (.slice A.iB h.items.length A.iC) := cell_of_row _ _ 7 _ _ _ hk2; have f7 : w2.frozen? ⟨A.hb, 7, none⟩ = false := frozen_row hk2 7))
 have hat2 : A.iB.map (·.block) = some g ∨ g = W1.heap.size + 1 := by
  have h9 : Value.ownBlock (.slice A.iB h.items.length A.iC) = some g ∨ g = W1.heap.size + 1 := hat
  rw [ownB_slice] at h9
  exact h9
 have hc2 : ChgS ([A.hb, A.nm] ++ (A.iB.map (·.block)).toList) W1 w2 := ((ChgS.refl _ _).trans (ChgS.of_below (S := []) (ba W1 _)) (fun b hb => by cases hb)).grown hgrow2 (fun b hb => .inl (by rw [hb]; simp))
 have hgh : g ≠ A.hb := by
  rcases hat2 with e | e
  ·exact (HAP.out.2.2.2 _ e).1
  ·have := block_lt HH1.out.hs.blk
   omega
 have hgn : g ≠ A.nm := by
  rcases hat2 with e | e
  ·exact (HAP.out.2.2.2 _ e).2.1
  ·have := HH1.out.hs.nam.lt
   omega
 have hgx : ∀ b, X <= b -> b < X + 5 -> g ≠ b := fun b h1 h2 e => by
  rcases hat2 with e' | e'
  ·have := HLT.out g (List.mem_append_left _ (by simp [HsA.own, e']))
   have := HX.out
   omega
  ·have := HSZ.out
   have := HX.out
   omega
 have hc3 := (hc2.set (b := A.hb) 7 (.slice (some ⟨g, 0, none⟩) (h.items.length + 1) cap) (.inl (by simp)))
 have hrow3 : (w2.setCell ⟨A.hb, 7, none⟩ (.slice (some ⟨g, 0, none⟩) (h.items.length + 1) cap)).ownsRow w.heap.size 101 1 (.slice (some ⟨g, 0, none⟩) (h.items.length + 1) cap) (h.items.length + 1) ((A.its.map fun a => .pointer (some ⟨a.b, 0, none⟩)) ++ [.pointer (some ⟨X + 1 + 1 + 1 + 1, 0, none⟩)]) := own_chg own1 (chg_set (W := w2) 7 (.slice (some ⟨g, 0, none⟩) (h.items.length + 1) cap) [A.hb] (by simp)) (fun b hb => by
  have : g = b := by simpa [Value.ownBlock] using hb
  subst this
  simpa using hgh)
 have hbk3 : (w2.setCell ⟨A.hb, 7, none⟩ (.slice (some ⟨g, 0, none⟩) (h.items.length + 1) cap)).heap[A.hb]? = some (.cells (hsRow n nxA nx.length nxC (some ⟨g, 0, none⟩) (h.items.length + 1) cap A.nm A.cm) 96 (0, 0)) := row_set hk2 7 _
 have hlt9 : w2.heap.size = (w2.setCell ⟨A.hb, 7, none⟩ (.slice (some ⟨g, 0, none⟩) (h.items.length + 1) cap)).heap.size := by simp
 have hnm3 : (w2.setCell ⟨A.hb, 7, none⟩ (.slice (some ⟨g, 0, none⟩) (h.items.length + 1) cap)).heap[A.nm]? = W1.heap[A.nm]? := (Below.heap_setCell _ _ _ _ (by show A.nm ≠ A.hb; exact HAP.out.1.symm)).trans ((hgrow2.block _ (by have := HH1.out.hs.nam.lt; simp; omega) (fun e => (HAP.out.2.2.2 _ e.symm).2.1 rfl)).trans (Below.heap_alloc _ _ _ HH1.out.hs.nam.lt))
 have hx3 : (w2.setCell ⟨A.hb, 7, none⟩ (.slice (some ⟨g, 0, none⟩) (h.items.length + 1) cap)).heap[X]? = some (dedO d) := by
  have h0 := HG0.out
  rw [HX.out] at h0
  refine (Below.heap_setCell _ _ _ _ ?_).trans ((hgrow2.block _ (by have := block_lt h0; simp; omega) (fun e => ?_)).trans ((Below.heap_alloc _ _ _ (block_lt h0)).trans h0))
  ·show X ≠ A.hb
   have := HLT.out A.hb (by simp [HsA.all, HsA.own])
   have := HX.out
   omega
  ·have := HLT.out X (List.mem_append_left _ (by simp [HsA.own, e.symm]))
   have := HX.out
   omega
 have HC3 := Lib.hid hc3
 have HR3 := Lib.hid hrow3
 have HB3 := Lib.hid hbk3
 have HM3 := Lib.hid (HH1.out.hs.nam.kept hnm3)
 have HX3 := Lib.hid hx3
 have HGX := Lib.hid hgx
 have HAT := Lib.hid hat2
 have HGS : Hid (W1.heap.size <= w2.heap.size) := Lib.hid hc2.size
 clear own1 hgrow hgrow2 hat hat2 hb2 hk2 d7 f7 hc2 hgh hgn hgx hc3 hrow3 hbk3 hnm3 hx3 c7 hlt hlt9
 generalize (w2.setCell ⟨A.hb, 7, none⟩ (.slice (some ⟨g, 0, none⟩) (h.items.length + 1) cap)) = w3 at *
 obtain ⟨w4, hrun, hm4, hg4⟩ := (show MapV Tryz.prog 9 w3.drew A.nm h.items.length (strF (namF h.items A.its)) from HM3.out).store keyS Tryz.underlying92 (key_str d.post.label (by have := HLL.out; unfold maxLen; omega)) (.pointer (some ⟨X + 1 + 1 + 1 + 1, 0, none⟩))
 have x2 : w3.drew.cell? ⟨X, 2, none⟩ = some (sV d.post.label) := cell_of_row _ _ 2 _ _ _ HX3.out
 have x8 : w3.drew.cell? ⟨A.hb, 8, none⟩ = some (.map (some A.nm)) := cell_of_row _ _ 8 _ _ _ HB3.out
 have HM4 := Lib.hid hm4
 have HG4 := Lib.hid hg4
 clear hm4 hg4
 go_region
 have HS4 : Hid (HsIn w.heap.size w4 n nxA nx.length nxC { h with items := h.items ++ [new0 d.post] } { A with iB := some ⟨g, 0, none⟩, iC := cap, its := A.its ++ [newA X] }) := by
  have h4 : ChgS ([A.hb, A.nm] ++ (A.iB.map (·.block)).toList) W1 w4 := HC3.out.grown (r := some A.nm) ⟨HG4.out.os, HG4.out.tape, HG4.out.output, HG4.out.size, HG4.out.block⟩ (fun b hb => .inl (by cases hb; simp))
  have h0 : ChgS ([A.hb, A.nm] ++ (A.iB.map (·.block)).toList) W w4 := (ChgS.of_below HWb.out).trans h4 (fun _ hb => .inl hb)
  have hbl : ∀ b ∈ (newA X).blks, X <= b /\ b < X + 5 := fun b hb => by
   simp [ItA.blks] at hb
   omega
  have e3 : A.nm ≠ A.hb := HAP.out.1.symm
  refine HW.out.hs.post h0 (fun b hb => hb) ?_ ?_ ?_ ?_ ?_ ?_ ?_ ?_ HLB.out
  ·exact (HG4.out.block _ (block_lt HB3.out) (by intro e; exact e3 (Option.some.inj e).symm)).trans HB3.out
  ·exact own_chg HR3.out (ChgS.of_grown (S := [A.nm]) (show w3.grownBy w4 (some A.nm) from ⟨HG4.out.os, HG4.out.tape, HG4.out.output, HG4.out.size, HG4.out.block⟩) (fun b hb => by cases hb; simp)) (fun b hb => by
    cases hb
    simp
    rcases HAT.out with e | e
    ·exact (HAP.out.2.2.2 _ e).2.1
    ·have := HH1.out.hs.nam.lt
     show g ≠ A.nm
     omega)
  ·rcases HAT.out with e | e
   ·exact .inl (by show g ∈ _; rw [e]; simp)
   ·exact .inr (by show W.heap.size <= g; have := HSZ.out; omega)
  ·exact HM4.out
  ·refine (show ItIn w.heap.size W1 (new0 d.post) (newA X) from by rw [<- HX.out]; exact HN0.out).chg h4 (fun b hb hb2 => ?_)
   have h1 := hbl b hb
   have h2 : b ∈ A.own := by
    rcases List.mem_append.1 hb2 with e | e
    ·exact List.mem_append_left _ (by simp at e ⊢; rcases e with e | e <;> simp [e])
    ·exact List.mem_append_right _ e
   have h3 := HLT.out b (List.mem_append_left _ h2)
   have := HX.out
   omega
  ·simp [ItA.blks]
   omega
  ·intro b hb
   have := hbl b hb
   have := HX.out
   omega
  ·intro hb
   have h1 := hbl _ hb
   exact HGX.out g h1.1 h1.2 rfl
 have HD4 : Hid (WdH w w4 n nx nxA nxC { h with items := h.items ++ [new0 d.post] } { A with iB := some ⟨g, 0, none⟩, iC := cap, its := A.its ++ [newA X] }) := by
  refine ⟨HW.out.old, HS4.out, ?_⟩
  have h4 : ChgS ([A.hb, A.nm] ++ (A.iB.map (·.block)).toList) W1 w4 := HC3.out.grown (r := some A.nm) ⟨HG4.out.os, HG4.out.tape, HG4.out.output, HG4.out.size, HG4.out.block⟩ (fun b hb => .inl (by cases hb; simp))
  refine HH1.out.bel.trans (h4.below HLE.out (fun b hb => ?_))
  refine (HH1.out.hs.lt b (List.mem_append_left _ ?_)).1
  rcases List.mem_append.1 hb with e | e
  ·exact List.mem_append_left _ (by simp at e ⊢; rcases e with e | e <;> simp [e])
  ·exact List.mem_append_right _ e
 clear hrun x2 x8 HS4
 have hk1 : (h.items ++ [new0 d.post])[h.items.length]? = some (new0 d.post) := by simp
 have hk2 : (A.its ++ [newA X])[h.items.length]? = some (newA X) := by rw [<- HW.out.hs.len]; simp
 have hto : toOf (h.items ++ [new0 d.post]) (new0 d.post) = d.post.dst := toLab_new (i := new0 d.post) HLB.out
 obtain ⟨q1, q2, q3, q4, q5, q6⟩ := HP.out
 have hD : DecW n { h with items := h.items ++ [new0 d.post] } (new0 d.post) := ⟨⟨Nat.le_refl 1, show 1 <= 100 by decide⟩, q2, ⟨q5, by show d.post.acc <= 2200000; omega⟩, ⟨by simp [new0, newI], show 1 <= 100000 by decide⟩, ⟨by simp [new0, newI], show 1 <= 100000 by decide⟩, ⟨q5, q6⟩, ⟨by show d.post.label.length <= 1000; have := HLL.out; omega, new0 d.post, by simp, rfl⟩, by rw [hto]; exact q3, Nat.zero_le _⟩
 have HCD : Hid (Calls Tryz.prog 101 #[.pointer (some ⟨A.hb, 0, none⟩), .pointer (some ⟨X + 1 + 1 + 1 + 1, 0, none⟩)] w4 fun e W'' => e = .returned (.tuple #[]) /\ ∃ A', WdH w W'' n nx nxA nxC (actR n nx h d) A' /\ A'.core = A.core) := by
  refine (decide_any w w4 n nx nxA nxC _ _ h.items.length _ (newA X) hS HF.out HD4.out hk1 hk2 hD).mono ?_
  rintro e W'' ⟨rfl, hs⟩
  refine ⟨rfl, { A with iB := some ⟨g, 0, none⟩, iC := cap, its := A.its ++ [newA X] }, ?_, rfl⟩
  have h6 := HD4.out.upd hk1 hk2 hs rfl
  rw [set_same hk2] at h6
  rw [HAC.out]
  have e6 : (h.items ++ [new0 d.post]).set h.items.length (decideI n nx h.canc (toOf (h.items ++ [new0 d.post]) (new0 d.post)) (new0 d.post)) = h.items ++ [decideI n nx h.canc d.post.dst (newI d.post)] := by
   rw [hto, List.set_append_right _ _ (Nat.le_refl _), Nat.sub_self]
   rfl
  have h7 : WdH w W'' n nx nxA nxC { h with items := (h.items ++ [new0 d.post]).set h.items.length (decideI n nx h.canc (toOf (h.items ++ [new0 d.post]) (new0 d.post)) (new0 d.post)) } { A with iB := some ⟨g, 0, none⟩, iC := cap, its := A.its ++ [newA X] } := h6
  rw [e6] at h7
  exact h7
 clear hk1 hk2 hto hD q1 q2 q3 q4 q5 q6
 go_wp2_with fail
 refine HCD.out.mono ?_
 rintro e w5 ⟨rfl, hw⟩
 have HWW := Lib.hid hw
 clear hw
 go_wp2_with fail
 exact bodyPost_end (results_none rfl _ _ _) rfl ⟨rfl, HWW.out⟩
def cutI (l : Int) (i : Itm) : Itm := if i.line = l then { i with line := -1, leave := 0 } else i
def cutL (l : Int) (items : List Itm) (k : Nat) : List Itm := (items.take k).map (cutI l) ++ items.drop k
theorem cutL_get (l : Int) (items : List Itm) (k : Nat) : (cutL l items k)[k]? = items[k]? := by
 unfold cutL
 by_cases hk : k <= items.length
 ·rw [List.getElem?_append_right (by simp; omega)]
  simp [Nat.min_eq_left hk]
 ·rw [List.getElem?_eq_none (by simp; omega), List.getElem?_eq_none (by omega)]
theorem cutL_step {l : Int} {items : List Itm} {k : Nat} {x : Itm} (h : items[k]? = some x) : cutL l items (k + 1) = (cutL l items k).set k (cutI l x) := by
 obtain ⟨hk, rfl⟩ := List.getElem?_eq_some_iff.1 h
 have hl : ((items.take k).map (cutI l)).length = k := by simp; omega
 unfold cutL
 rw [List.set_append_right _ _ (by omega), hl, Nat.sub_self, List.drop_eq_getElem_cons hk, List.take_succ_eq_append_getElem hk, List.map_append, List.set_cons_zero, List.append_assoc]
 rfl
theorem cutL_end (l : Int) (items : List Itm) : cutL l items items.length = items.map (cutI l) := by simp [cutL]
theorem cancel_any (w W : World) (n : Net) (nx : List NsC) (nxA : Option Addr) (nxC : Nat) (h : Hst) (A : HsA) (d : Ded) (H : WdH w W n nx nxA nxC h A) (hl : I64 d.line) (hL : h.items.length <= 100000) (hk : d.kind = 5) :
  Calls Tryz.prog 98 #[.pointer (some ⟨A.hb, 0, none⟩), dedV d] W fun e W' => e = .returned (.tuple #[]) /\ WdH w W' n nx nxA nxC (actR n nx h d) A := by
 have hb0 : Below W.heap.size W (W.alloc (dedO d)).drew := b_drew (ba W (dedO d))
 have hx0 : (W.alloc (dedO d)).drew.heap[W.heap.size]? = some (dedO d) := heap_alloc_new W (dedO d)
 have H0 := H.below hb0
 obtain ⟨m, hm⟩ := H0.hs.can
 have c9 : (W.alloc (dedO d)).drew.cell? ⟨A.hb, 9, none⟩ = some (.map (some A.cm)) := H0.hs.cell rfl
 have cL : (W.alloc (dedO d)).drew.cell? ⟨W.heap.size, 9, none⟩ = some (iV d.line) := cell_of_row _ _ 9 _ _ _ hx0
 obtain ⟨W', hrun, hm', hg'⟩ := hm.store keyI Tryz.underlying93 (key_int d.line hl) (.bool true)
 have H1 := H0.canc hm' hg'
 have hcm : A.cm < W.heap.size := by
  obtain ⟨m2, hm2⟩ := H.hs.can
  exact hm2.lt
 have hx1 : W'.heap[W.heap.size]? = some (dedO d) := (hg'.block _ (block_lt hx0) (by simp; omega)).trans hx0
 have hact : actR n nx h d = { items := h.items.map (cutI d.line), canc := d.line :: h.canc } := by
  unfold actR
  rw [if_neg (by omega), if_neg (by omega), if_neg (by omega), if_neg (by omega)]
  rfl
 rw [hact]
 have HH := Lib.hid H1
 have HX := Lib.hid hx1
 have HXA : Hid (∀ b ∈ A.all, b < W.heap.size) := fun b hb => (H.hs.lt b hb).2
 have HL := Lib.hid hL
 clear H1 hx1 hcm hm' hg' hm H0 hx0 hb0 H hact hk hL hl
 go_enter Tryz.func98, Tryz.ntmps98
 go_upto_region 1 with fail
 go_region
 generalize W.heap.size = X at *
 clear c9 cL hrun
 obtain ⟨ib, io, hI⟩ : ∃ ib io, ∀ k (a : ItA), A.its[k]? = some a -> A.iB = some ⟨ib, io, none⟩ := by
  cases hq : A.its with
  | nil => exact ⟨0, 0, fun k a e => by first | (rw [hq] at e; simp at e) | (exact absurd (List.mem_of_getElem? e) List.not_mem_nil)⟩
  | cons y l =>
   obtain ⟨b, off, hA, -, -⟩ := (rd_own HH.out.hs.row).get (i := 0) (by rw [hq]; simp)
   exact ⟨b, off, fun _ _ _ => hA⟩
 have c7 : W'.cell? ⟨A.hb, 7, none⟩ = some (.slice A.iB h.items.length A.iC) := HH.out.hs.cell rfl
 have HI := Lib.hid hI
 clear hI
 go_wp2_with fail
 go_loopw [5, 17] (fun _ i wr => ∃ k : Nat, k <= h.items.length /\ i = iV k /\ Hid (WdH w wr n nx nxA nxC { items := cutL d.line h.items k, canc := d.line :: h.canc } A /\ wr.heap[X]? = some (dedO d))) (fun _ i _ => h.items.length + 1 - (intOf i).toNat)
 case atStart => exact ⟨0, Nat.zero_le _, rfl, Lib.hid ⟨HH.out, HX.out⟩⟩
 case round =>
 obtain ⟨k, hk, rfl, HR⟩ := hrel
 clear c7
 have j0 : (0 : Int) <= (k : Int) := by omega
 by_cases hlt : k < h.items.length
 case neg =>
  have j1 : ¬ (k : Int) < (h.items.length : Int) := by omega
  have he : k = h.items.length := by omega
  have HE := Lib.hid he
  clear he hlt hk
  go_wp2_with fail
  refine bodyPost_end (results_none rfl _ _ _) rfl ⟨rfl, ?_⟩
  have := HR.out.1
  rwa [HE.out, cutL_end] at this
 have hk1 : k < A.its.length := by
  have := HR.out.1.hs.len
  rw [this]
  show k < (cutL d.line h.items k).length
  have h2 := cutL_get d.line h.items k
  rw [List.getElem?_eq_getElem hlt] at h2
  exact (List.getElem?_eq_some_iff.1 h2).1
 obtain ⟨x, hx⟩ : ∃ x, h.items[k]? = some x := ⟨_, List.getElem?_eq_getElem hlt⟩
 obtain ⟨a, ha⟩ : ∃ a, A.its[k]? = some a := ⟨_, List.getElem?_eq_getElem hk1⟩
 have hA := HI.out k a ha
 have hcx : (cutL d.line h.items k)[k]? = some x := (cutL_get _ _ _).trans hx
 have hit := HR.out.1.hs.item k x a hcx ha
 have hbl := HR.out.1.hs.blks ha
 obtain ⟨lv, hlv, hlv2, hrow⟩ := hit.cells
 have p0 : wr.cell? ⟨ib, io + k, none⟩ = some (.pointer (some ⟨a.b, 0, none⟩)) := by
  obtain ⟨b, off, hB, -, hc⟩ := (rd_own HR.out.1.hs.row).get (i := k) (by simpa using hk1)
  have e : (some ⟨b, off, none⟩ : Option Addr) = some ⟨ib, io, none⟩ := hB.symm.trans hA
  cases e
  exact hc k _ (by rw [List.getElem?_map, ha]; rfl)
 have c11 : wr.cell? ⟨a.b, 11, none⟩ = some (iV x.line) := cell_of_row _ _ 11 _ _ _ hrow
 have f11 : wr.frozen? ⟨a.b, 11, none⟩ = false := frozen_row hrow 11
 have cL : wr.cell? ⟨X, 9, none⟩ = some (iV d.line) := cell_of_row _ _ 9 _ _ _ HR.out.2
 have j1 : (k : Int) < (h.items.length : Int) := by omega
 have HLT := Lib.hid hlt
 have HT := Lib.hid (⟨hx, ha, hcx, hit, hbl.1, hlv, hrow⟩ : h.items[k]? = some x /\ A.its[k]? = some a /\ (cutL d.line h.items k)[k]? = some x /\ ItIn w.heap.size wr x a /\ a.blks.Nodup /\ I64 lv /\ wr.heap[a.b]? = _)
 rw [hA]
 clear hA hx ha hcx hit hbl hlv hlv2 hrow hlt hk hk1
 go_upto_region 5 with fail
 go_quiet (fail)
 have HB : Hid (Below wr.heap.size wr (wr.drewN nq)) := below_drewN (Below.refl _ _) nq
 change Exit.then _ _ _ _ (wr.drewN nq)
 generalize (wr.drewN nq) = w2 at *
 have HR2 := Lib.hid (HR.out.1.below HB.out)
 have hx2 := Lib.hid ((HB.out.block _ (block_lt HR.out.2)).trans HR.out.2)
 have hrow2 := (HB.out.block _ (block_lt HT.out.2.2.2.2.2.2)).trans HT.out.2.2.2.2.2.2
 have hit2 := HT.out.2.2.2.1.below HB.out
 have f11 : w2.frozen? ⟨a.b, 11, none⟩ = false := frozen_row hrow2 11
 have c11 : w2.cell? ⟨a.b, 11, none⟩ = some (iV x.line) := cell_of_row _ _ 11 _ _ _ hrow2
 have e2 : IntKind.i64.wrap ((k : Int) + 1) = (k : Int) + 1 := IntWalk.i64_in _ (by have := HL.out; have := HLT.out; omega)
 have HT2 := Lib.hid (⟨hrow2, hit2⟩ : w2.heap[a.b]? = _ /\ ItIn w.heap.size w2 x a)
 clear hrow2 hit2 p0 cL
 by_cases hl : x.line = d.line
 ·have hb : (x.line == d.line) = true := by simpa using hl
  have HLE := Lib.hid hl
  rw [hb]
  clear hb hl
  go_wp2_with fail
  go_roundw
  case rel =>
   refine ⟨k + 1, HLT.out, by go_num, Lib.hid ?_⟩
   have hst := HT2.out.2.store (it' := { x with line := -1, leave := 0 }) (lv' := lv) HT2.out.1 HT.out.2.2.2.2.1 (i := 11) (v := iV (-1)) rfl rfl rfl rfl rfl ⟨HT.out.2.2.2.2.2.1, fun e => absurd (show (0 : Int) <= -1 from e) (by decide)⟩
   have hc : ChgS a.blks w2 (w2.setCell ⟨a.b, 11, none⟩ (iV (-1))) := chg_set _ _ _ (by simp [ItA.blks])
   have hu := HR2.out.upd (it' := { x with line := -1, leave := 0 }) HT.out.2.2.1 HT.out.2.1 ⟨hst, hc, fun b hb => .inl hb, HT.out.2.2.2.2.1, rfl⟩ rfl
   rw [set_same HT.out.2.1] at hu
   have hci : cutI d.line x = { x with line := -1, leave := 0 } := by unfold cutI; rw [if_pos HLE.out]
   rw [cutL_step HT.out.1, hci]
   refine ⟨hu, (hc.block _ (block_lt hx2.out) ?_).trans hx2.out⟩
   intro hb
   have := HXA.out X (List.mem_append_right _ (List.mem_flatMap.2 ⟨a, List.mem_of_getElem? HT.out.2.1, hb⟩))
   omega
  case measure => have := HLT.out; simp [intOf]; omega
 ·have hb : (x.line == d.line) = false := by simpa using hl
  have HLE := Lib.hid hl
  rw [hb]
  clear hb hl
  go_wp2_with fail
  go_roundw
  case rel =>
   refine ⟨k + 1, HLT.out, by go_num, Lib.hid ?_⟩
   have hci : cutI d.line x = x := by unfold cutI; rw [if_neg HLE.out]
   rw [cutL_step HT.out.1, hci, set_same HT.out.2.2.1]
   exact ⟨HR2.out, hx2.out⟩
  case measure => have := HLT.out; simp [intOf]; omega
theorem label_at {items : List Itm} (hn : (items.map fun i => i.post.label).Nodup) {i j : Nat} {x y : Itm} (h1 : items[i]? = some x) (h2 : items[j]? = some y) (e : x.post.label = y.post.label) : i = j := by
 obtain ⟨g1, e1⟩ := List.getElem?_eq_some_iff.1 h1
 obtain ⟨g2, e2⟩ := List.getElem?_eq_some_iff.1 h2
 refine (List.getElem_inj (h₀ := by simpa using g1) (h₁ := by simpa using g2) hn).1 ?_
 simp [e1, e2, e]
theorem map_set2 {items : List Itm} {i j : Nat} {a b : Itm} {l m : List UInt8} (hn : (items.map fun i => i.post.label).Nodup) (ha : items[i]? = some a) (hb : items[j]? = some b) (la : a.post.label = l) (lb : b.post.label = m) (hne : l ≠ m) (f g : Itm -> Itm) :
  (items.map fun x => if x.post.label == l then f x else if x.post.label == m then g x else x) = (items.set i (f a)).set j (g b) := by
 have hij : i ≠ j := fun e => hne (by subst e; rw [ha] at hb; cases hb; rw [<- la, <- lb])
 apply List.ext_getElem?
 intro k
 rw [List.getElem?_map, List.getElem?_set, List.length_set]
 by_cases hjk : j = k
 ·subst hjk
  rw [if_pos rfl, if_pos (List.getElem?_eq_some_iff.1 hb).1, hb]
  have : ¬ m = l := fun e => hne e.symm
  simp [this, lb]
 ·rw [if_neg hjk, List.getElem?_set]
  by_cases hik : i = k
  ·subst hik
   rw [if_pos rfl, if_pos (List.getElem?_eq_some_iff.1 ha).1, ha]
   simp [la]
  ·rw [if_neg hik]
   cases hx : items[k]? with
   | none => rfl
   | some x =>
    have h1 : ¬ x.post.label = l := fun e => hik (label_at hn ha hx (by rw [la, e]))
    have h2 : ¬ x.post.label = m := fun e => hjk (label_at hn hb hx (by rw [lb, e]))
    simp [h1, h2]
end Go.Proofs.YtpeaiphdkgifaaaGreatDoor
