/-
  The laws of the chapter in plain Lean: first minutes, ways, promises. Opened arguments, the last step: what the statements of every seat share. Networks and tables of lines that come in. (Printed by gen_open.py.) What the cards of this seat share: the key words out of the row's list, a world for the witness. What the laws of the chapter share: values of the top functions, numbers out of small words. A network with fewer minutes at an office: it is sound, and nothing is later in it.
-/
import Derived.Test.YtldkmljjmnaefaaGreatDoorPk
import Derived.Test.YtldkmljjmnaefaaGreatDoorRows
import Derived.Test.YtldkmljjmnaefaaGreatDoorPa
import Derived.ProofKit
import Derived.OpenShut
import Derived.Deep.DeepHandedRow
import Derived.Deep.Slices
import Derived.WideKeyArgs
import Derived.Test.YtldkmljjmnaefaaGreatDoorPj
import Derived.Test.YtldkmljjmnaefaaGreatDoorCards
import Derived.Test.YtldkmljjmnaefaaGreatDoorTie
import Derived.Lib.LaidTab
import Derived.Test.YtldkmljjmnaefaaGreatDoorPo
namespace Go.Proofs.YtldkmljjmnaefaaGreatDoor
open Go.RowKit

theorem firstDay_le {c : Cal} {m t d : Int} (h1 : 0 ≤ m) (h2 : m < 1440) : firstDay c m t ≤ d ↔ t ≤ timeOf c d m := by
  unfold firstDay timeOf minOf dayOf
  split <;> omega
theorem firstR_cases (c : Cal) (m t : Int) : (∃ D, nextW c 60 (firstDay c m t) = some D ∧ firstR c m t = (timeOf c D m, 0)) ∨ (nextW c 60 (firstDay c m t) = none ∧ firstR c m t = (0, 20)) := by
  have : firstR c m t = match nextW c 60 (firstDay c m t) with | some d => (timeOf c d m, 0) | none => (0, 20) := rfl
  rw [this]
  cases nextW c 60 (firstDay c m t) with
  | none => exact .inr ⟨rfl, rfl⟩
  | some D => exact .inl ⟨D, rfl, rfl⟩
/-- The first time of a minute is that of a first day. -/
theorem firstR_day {c : Cal} {m t x : Int} (h1 : 0 ≤ m) (h2 : m < 1440) (h : firstR c m t = (x, 0)) : ∃ D, x = timeOf c D m ∧ workB c D = true ∧ t ≤ x ∧ (∀ E, E < D → workB c E = true → timeOf c E m < t) ∧ firstDay c m t ≤ D ∧ D < firstDay c m t + 60 := by
  rcases firstR_cases c m t with ⟨D, hD, h3⟩ | ⟨_, h3⟩
  · rw [h3] at h
    obtain ⟨g1, g2, g3, g4⟩ := nextW_some hD
    refine ⟨D, (Prod.mk.inj h).1.symm, g3, ?_, fun E hE hw => ?_, g1, by omega⟩
    · rw [← (Prod.mk.inj h).1]
      exact (firstDay_le h1 h2).1 g1
    · rcases Int.lt_or_le (timeOf c E m) t with h4 | h4
      · exact h4
      · have := g4 E ((firstDay_le h1 h2).2 h4) hE
        rw [this] at hw
        cases hw
  · rw [h3] at h
    have := (Prod.mk.inj h).2
    omega
theorem time_inj {c : Cal} {m D E : Int} : timeOf c D m < timeOf c E m ↔ D < E := by unfold timeOf; omega
theorem firstR_err {c : Cal} {m t : Int} (h : (firstR c m t).2 ≠ 0) : firstR c m t = (0, 20) := by
  rcases firstR_cases c m t with ⟨D, hD, h3⟩ | ⟨_, h3⟩
  · rw [h3] at h; exact absurd rfl h
  · exact h3
theorem firstR_ok {c : Cal} {m t : Int} (h : (firstR c m t).2 = 0) : firstR c m t = ((firstR c m t).1, 0) := by rw [← h]
theorem firstR_mono {c : Cal} {m t u x y : Int} (h1 : 0 ≤ m) (h2 : m < 1440) (ht : t ≤ u) (h : firstR c m t = (x, 0)) (k : firstR c m u = (y, 0)) : x ≤ y := by
  obtain ⟨D, rfl, a1, a2, a3, _⟩ := firstR_day h1 h2 h
  obtain ⟨E, rfl, b1, b2, _⟩ := firstR_day h1 h2 k
  rcases Int.lt_or_le E D with hED | hED
  · have := a3 E hED b1
    omega
  · unfold timeOf; omega
/-- From a time in between on, it is the same one. -/
theorem firstR_mid {c : Cal} {m t u x : Int} (h1 : 0 ≤ m) (h2 : m < 1440) (ht : t ≤ u) (hu : u ≤ x) (h : firstR c m t = (x, 0)) : firstR c m u = (x, 0) := by
  obtain ⟨D, rfl, a1, a2, a3, a4, a5⟩ := firstR_day h1 h2 h
  have hD : firstDay c m u ≤ D := (firstDay_le h1 h2).2 hu
  have hL : firstDay c m t ≤ firstDay c m u := (firstDay_le h1 h2).2 (by have := (firstDay_le (c := c) h1 h2).1 (Int.le_refl (firstDay c m u)); omega)
  rcases firstR_cases c m u with ⟨E, hE, h3⟩ | ⟨hE, h3⟩
  · obtain ⟨g1, g2, g3, g4⟩ := nextW_some hE
    have : E = D := by
      rcases Int.lt_or_le E D with h4 | h4
      · have := a3 E h4 g3
        have := (firstDay_le (c := c) h1 h2).1 g1
        omega
      · rcases Int.lt_or_le D E with h5 | h5
        · have := g4 D hD h5
          rw [a1] at this
          cases this
        · omega
    rw [h3, this]
  · have := nextW_none hE D hD (by omega)
    rw [a1] at this
    cases this
/-- What is not found cannot be found soon. -/
theorem firstR_none {c : Cal} {m t u x : Int} (h1 : 0 ≤ m) (h2 : m < 1440) (ht : t ≤ u) (h : (firstR c m t).2 ≠ 0) (k : firstR c m u = (x, 0)) : t + 84960 ≤ x := by
  obtain ⟨D, rfl, a1, a2, a3, a4, a5⟩ := firstR_day h1 h2 k
  rcases firstR_cases c m t with ⟨E, hE, h3⟩ | ⟨hE, h3⟩
  · rw [h3] at h
    exact absurd rfl h
  · have hL : firstDay c m t ≤ D := (firstDay_le h1 h2).2 (by omega)
    have hlt : ¬ D < firstDay c m t + 60 := fun hl => by
      have := nextW_none hE D hL (by omega)
      rw [a1] at this
      cases this
    have h5 := (firstDay_le (c := c) h1 h2).1 (Int.le_refl (firstDay c m t))
    unfold timeOf at *
    omega

/-! Ways -/
/-- Nothing is later in the first network. -/
structure Quick (n m : Net) : Prop where
  lins : n.lins = m.lins
  lens : n.offs.length = m.offs.length
  cal : ∀ o, calAt n o = calAt m o
  ready : ∀ o < m.offs.length, ∀ t u, t ≤ u → readyR (offAt n o) t ≤ readyR (offAt m o) u
theorem Quick.same (n : Net) : Quick n n := ⟨rfl, rfl, fun _ => rfl, fun o _ t u h => by unfold readyR; omega⟩
inductive All2 {α : Type} (R : α → α → Prop) : List α → List α → Prop
  | nil : All2 R [] []
  | cons {a b : α} {l m : List α} (h : R a b) (t : All2 R l m) : All2 R (a :: l) (b :: m)
theorem All2.len {α : Type} {R : α → α → Prop} {l m : List α} (h : All2 R l m) : l.length = m.length := by
  induction h with
  | nil => rfl
  | cons _ _ ih => simp [ih]
theorem All2.get {α : Type} {R : α → α → Prop} {l m : List α} (h : All2 R l m) : ∀ (i : Nat) (a b : α), l[i]? = some a → m[i]? = some b → R a b := by
  induction h with
  | nil => intro i a b h; simp at h
  | cons h t ih =>
    intro i a b ha hb
    cases i with
    | zero => cases ha; cases hb; exact h
    | succ i => exact ih i a b ha hb
def LeSt (s s' : St) : Prop := s.office = s'.office ∧ s.line = s'.line ∧ s.arrive ≤ s'.arrive ∧ s.depart ≤ s'.depart
theorem departR_mono {c : Cal} {L : Lin} {t u : Int} (h1 : 0 ≤ L.at_) (h2 : L.at_ < 1440) (ht : t ≤ u) (h : (departR c L t).2 = 0) (k : (departR c L u).2 = 0) : (departR c L t).1 ≤ (departR c L u).1 := by
  unfold departR at *
  by_cases a : tOk t = true
  · by_cases b : tOk u = true
    · rw [if_pos a] at h ⊢
      rw [if_pos b] at k ⊢
      exact firstR_mono h1 h2 ht (firstR_ok h) (firstR_ok k)
    · rw [if_neg b] at k
      exact absurd k (by decide)
  · rw [if_neg a] at h
    exact absurd h (by decide)
theorem departR_err {c : Cal} {L : Lin} {t : Int} (h : (departR c L t).2 ≠ 0) : (departR c L t).2 ≠ 170 := by
  unfold departR at *
  by_cases a : tOk t = true
  · rw [if_pos a] at h ⊢
    rw [firstR_err h]
    decide
  · rw [if_neg a]
    decide
theorem dest_lt {n : Net} {nx : List NsC} (hG : Good n) (hF : Formed n nx) {o d : Nat} (ho : o < n.offs.length) (hd : d < n.offs.length) (hl : nxAt nx o d ≠ -1) : (0 ≤ (linAt n (nxAt nx o d).toNat).at_ ∧ (linAt n (nxAt nx o d).toNat).at_ < 1440) ∧ (linAt n (nxAt nx o d).toNat).to.toNat < n.offs.length ∧ ((linAt n (nxAt nx o d).toNat).to.toNat : Int) = (linAt n (nxAt nx o d).toNat).to ∧ 0 ≤ nxAt nx o d ∧ nxAt nx o d < n.lins.length := by
  obtain ⟨h1, h2, h3⟩ := (formed_at hF ho hd).resolve_left hl
  have hlt : (nxAt nx o d).toNat < n.lins.length := by omega
  have := hG.lin _ (List.mem_of_getElem? (linAt_get hlt))
  refine ⟨⟨this.2.2.1, this.2.2.2.1⟩, by omega, by omega, h1, h2⟩
/-- A way that begins later, or in a slower network, is the same way, and later. -/
theorem wayR_later {m n : Net} {nx : List NsC} (hQ : Quick m n) (hG : Good n) (hF : Formed n nx) {d : Nat} (hd : d < n.offs.length) : ∀ (f o : Nat) (t u : Int), o < n.offs.length → t ≤ u → (wayR m nx d f o t).1 = 0 → (wayR n nx d f o u).1 = 0 → All2 LeSt (wayR m nx d f o t).2 (wayR n nx d f o u).2 := by
  intro f
  induction f with
  | zero =>
    intro o t u ho ht h k
    by_cases hod : o = d
    · subst hod
      rw [wayR_at, wayR_at]
      exact .cons ⟨rfl, rfl, ht, Int.le_refl _⟩ .nil
    · simp only [wayR, hod, if_false] at h
      split at h
      · exact absurd h (by decide)
      · split at h
        · exact absurd h (by decide)
        · rename_i h2
          exact absurd h h2
  | succ f ih =>
    intro o t u ho ht h k
    by_cases hod : o = d
    · subst hod
      rw [wayR_at, wayR_at]
      exact .cons ⟨rfl, rfl, ht, Int.le_refl _⟩ .nil
    by_cases hl : nxAt nx o d = -1
    · rw [wayR_no _ _ _ _ _ _ hod hl] at h
      exact absurd h (by decide)
    obtain ⟨⟨p1, p2⟩, p3, p4, -⟩ := dest_lt hG hF ho hd hl
    have hlm : linAt m (nxAt nx o d).toNat = linAt n (nxAt nx o d).toNat := by unfold linAt; rw [hQ.lins]
    simp only [wayR, hod, hl, if_false] at h k ⊢
    rw [hlm, hQ.cal] at h ⊢
    split at h
    case isFalse hh => exact absurd h hh
    case isTrue hh =>
    split at k
    case isFalse kk => exact absurd k kk
    case isTrue kk =>
    rw [if_pos hh, if_pos kk]
    have hdep := departR_mono p1 p2 (hQ.ready o ho t u ht) hh kk
    split at h
    case isFalse g => exact absurd h g
    case isTrue g =>
    split at k
    case isFalse g' => exact absurd k g'
    case isTrue g' =>
    rw [if_pos g, if_pos g']
    exact .cons ⟨rfl, rfl, ht, hdep⟩ (ih _ _ _ p3 (by omega) g g')
/-- Where a way exists, no way from another time lacks a line. -/
theorem wayR_route {n : Net} {nx : List NsC} (hG : Good n) (hF : Formed n nx) {d : Nat} (hd : d < n.offs.length) : ∀ (f o : Nat) (t u : Int), o < n.offs.length → (wayR n nx d f o t).1 = 0 → (wayR n nx d f o u).1 ≠ 170 ∧ ((wayR n nx d f o u).1 = 0 → All2 (fun s s' => s.office = s'.office ∧ s.line = s'.line) (wayR n nx d f o t).2 (wayR n nx d f o u).2) := by
  intro f
  induction f with
  | zero =>
    intro o t u ho h
    by_cases hod : o = d
    · subst hod
      rw [wayR_at, wayR_at]
      exact ⟨(show (0 : Int) ≠ 170 by decide), fun _ => .cons ⟨rfl, rfl⟩ .nil⟩
    · simp only [wayR, hod, if_false] at h
      split at h
      · exact absurd h (by decide)
      · split at h
        · exact absurd h (by decide)
        · rename_i h2
          exact absurd h h2
  | succ f ih =>
    intro o t u ho h
    by_cases hod : o = d
    · subst hod
      rw [wayR_at, wayR_at]
      exact ⟨(show (0 : Int) ≠ 170 by decide), fun _ => .cons ⟨rfl, rfl⟩ .nil⟩
    by_cases hl : nxAt nx o d = -1
    · rw [wayR_no _ _ _ _ _ _ hod hl] at h
      exact absurd h (by decide)
    obtain ⟨⟨p1, p2⟩, p3, p4, -⟩ := dest_lt hG hF ho hd hl
    simp only [wayR, hod, hl, if_false] at h ⊢
    split at h
    case isFalse hh => exact absurd h hh
    case isTrue hh =>
    split at h
    case isFalse g => exact absurd h g
    case isTrue g =>
    have hr := ih _ _ ((departR (calAt n o) (linAt n (nxAt nx o d).toNat) (readyR (offAt n o) u)).1 + (linAt n (nxAt nx o d).toNat).travel) p3 g
    by_cases kk : (departR (calAt n o) (linAt n (nxAt nx o d).toNat) (readyR (offAt n o) u)).2 = 0
    · rw [if_pos hh, if_pos kk, if_pos g]
      by_cases g' : (wayR n nx d f (linAt n (nxAt nx o d).toNat).to.toNat ((departR (calAt n o) (linAt n (nxAt nx o d).toNat) (readyR (offAt n o) u)).1 + (linAt n (nxAt nx o d).toNat).travel)).1 = 0
      · rw [if_pos g']
        exact ⟨(show (0 : Int) ≠ 170 by decide), fun _ => .cons ⟨rfl, rfl⟩ (hr.2 g')⟩
      · rw [if_neg g']
        exact ⟨hr.1, fun h => absurd h g'⟩
    · rw [if_neg kk]
      exact ⟨departR_err kk, fun h => absurd h kk⟩
/-- What a way is. -/
def WayOk (n : Net) (nx : List NsC) (d : Nat) : Nat → Int → List St → Prop
  | _, _, [] => False
  | o, t, [s] => s = ⟨o, t, -1, -1⟩ ∧ o = d
  | o, t, s :: s' :: l => s = ⟨o, t, (departR (calAt n o) (linAt n (nxAt nx o d).toNat) (readyR (offAt n o) t)).1, nxAt nx o d⟩ ∧ o ≠ d ∧ nxAt nx o d ≠ -1 ∧ (departR (calAt n o) (linAt n (nxAt nx o d).toNat) (readyR (offAt n o) t)).2 = 0 ∧ WayOk n nx d (linAt n (nxAt nx o d).toNat).to.toNat (s.depart + (linAt n (nxAt nx o d).toNat).travel) (s' :: l)
theorem wayR_ok {n : Net} {nx : List NsC} {d : Nat} : ∀ (f o : Nat) (t : Int), (wayR n nx d f o t).1 = 0 → WayOk n nx d o t (wayR n nx d f o t).2 ∧ (wayR n nx d f o t).2.length ≤ f + 1 := by
  intro f
  induction f with
  | zero =>
    intro o t h
    by_cases hod : o = d
    · subst hod
      rw [wayR_at]
      exact ⟨⟨rfl, rfl⟩, Nat.le_refl _⟩
    · simp only [wayR, hod, if_false] at h
      split at h
      · exact absurd h (by decide)
      · split at h
        · exact absurd h (by decide)
        · rename_i h2
          exact absurd h h2
  | succ f ih =>
    intro o t h
    by_cases hod : o = d
    · subst hod
      rw [wayR_at]
      exact ⟨⟨rfl, rfl⟩, by simp⟩
    by_cases hl : nxAt nx o d = -1
    · rw [wayR_no _ _ _ _ _ _ hod hl] at h
      exact absurd h (by decide)
    simp only [wayR, hod, hl, if_false] at h ⊢
    split at h
    case isFalse hh => exact absurd h hh
    case isTrue hh =>
    split at h
    case isFalse g => exact absurd h g
    case isTrue g =>
    rw [if_pos hh, if_pos g]
    obtain ⟨i1, i2⟩ := ih _ _ g
    generalize hw : (wayR n nx d f (linAt n (nxAt nx o d).toNat).to.toNat ((departR (calAt n o) (linAt n (nxAt nx o d).toNat) (readyR (offAt n o) t)).1 + (linAt n (nxAt nx o d).toNat).travel)).2 = W at i1 i2
    cases W with
    | nil => exact i1.elim
    | cons s' l => exact ⟨⟨rfl, hod, hl, hh, i1⟩, by simp at i2 ⊢; omega⟩

/-! Promises -/
theorem cuts_cut {c : Cal} {m : Int} (h1 : 0 ≤ m) (h2 : m < 1440) {M T : Int} (hMT : M ≤ T) : ∀ (f : Nat) (t : Int), (T - t).toNat ≤ f → t ≤ M → T - t ≤ 84960 → cuts c m T t = cuts c m M t ++ cuts c m T M
  | 0, t, hf, ht, hw => by
    have e1 : (T - t).toNat = 0 := by omega
    have e2 : (M - t).toNat = 0 := by omega
    have e3 : (T - M).toNat = 0 := by omega
    unfold cuts
    rw [e1, e2, e3]
    rfl
  | f + 1, t, hf, ht, hw => by
    by_cases hok : (firstR c m t).2 = 0
    · have h3 := firstR_ok hok
      obtain ⟨h4, h5⟩ := firstR_in h1 h2 h3
      by_cases hM : (firstR c m t).1 < M
      · rw [cuts_eq c h1 h2 T t, cuts_eq c h1 h2 M t, if_pos ⟨hok, by omega⟩, if_pos ⟨hok, hM⟩, cuts_cut h1 h2 hMT f _ (by omega) (by omega) (by omega), List.cons_append]
      · have h6 := firstR_mid h1 h2 ht (by omega) h3
        rw [cuts_eq c h1 h2 M t, if_neg (by rintro ⟨_, h⟩; exact hM h), List.nil_append, cuts_eq c h1 h2 T t, cuts_eq c h1 h2 T M, h6, hok]
    · rw [cuts_eq c h1 h2 T t, cuts_eq c h1 h2 M t, if_neg (fun h => hok h.1), if_neg (fun h => hok h.1), List.nil_append, cuts_eq c h1 h2 T M, if_neg]
      rintro ⟨h6, h7⟩
      have := firstR_none h1 h2 ht hok (firstR_ok h6)
      omega
def maxF : List Int → Int → Int
  | [], g => g
  | x :: l, g => maxF l (max g x)
theorem maxF_max : ∀ (l : List Int) (g h : Int), maxF l (max g h) = max (maxF l g) h
  | [], _, _ => rfl
  | x :: l, g, h => by
    show maxF l (max (max g h) x) = max (maxF l (max g x)) h
    rw [show max (max g h) x = max (max g x) h by omega, maxF_max l]
theorem needR_nonneg {n : Net} {nx : List NsC} {k o d : Nat} {t x : Int} (h : needR n nx k o d t = some x) : 0 ≤ x := by
  unfold needR at h
  split at h
  · cases h
  · split at h
    · cases h
    · simp only at h
      split at h
      · cases h
      · cases h; omega
theorem mostF_cases (n : Net) (nx : List NsC) (k o d : Nat) : ∀ (l : List Int) (g : Int), (∃ xs, l.map (needR n nx k o d) = xs.map some ∧ mostF n nx k o d l g = maxF xs g) ∨ (none ∈ l.map (needR n nx k o d) ∧ mostF n nx k o d l g = -1)
  | [], g => .inl ⟨[], rfl, rfl⟩
  | t :: l, g => by
    unfold mostF
    cases hn : needR n nx k o d t with
    | none => exact .inr ⟨by simp [hn], rfl⟩
    | some x =>
      rcases mostF_cases n nx k o d l (max g x) with ⟨xs, h1, h2⟩ | ⟨h1, h2⟩
      · exact .inl ⟨x :: xs, by simp [hn, h1], by simp only [h2]; rfl⟩
      · exact .inr ⟨by rw [List.map_cons]; exact List.mem_cons_of_mem _ h1, by simp only [h2]⟩
theorem maxF_ge : ∀ (l : List Int) (g : Int), g ≤ maxF l g
  | [], _ => Int.le_refl _
  | x :: l, g => by
    have := maxF_ge l (max g x)
    show g ≤ maxF l (max g x)
    omega
theorem maxF_app (l m : List Int) (g : Int) : maxF (l ++ m) g = maxF m (maxF l g) := by
  induction l generalizing g with
  | nil => rfl
  | cons x l ih => exact ih _
theorem some_inj : ∀ {xs ys : List Int}, xs.map some = ys.map some → xs = ys
  | [], [], _ => rfl
  | [], _ :: _, h => by simp at h
  | _ :: _, [], h => by simp at h
  | x :: xs, y :: ys, h => by
    simp only [List.map_cons, List.cons.injEq, Option.some.injEq] at h
    rw [h.1, some_inj h.2]
theorem no_none {xs : List Int} : none ∉ xs.map some := by simp
theorem mostF_app (n : Net) (nx : List NsC) (k o d : Nat) (l m : List Int) {x y z : Int} (hx : mostF n nx k o d l (-1) = x) (hy : mostF n nx k o d m (-1) = y) (hz : mostF n nx k o d (l ++ m) (-1) = z) :
    -1 ≤ z ∧ (z = max x y ∨ z = -1 ∧ min x y < 0) := by
  rcases mostF_cases n nx k o d l (-1) with ⟨xs, h1, h2⟩ | ⟨h1, h2⟩
  · rcases mostF_cases n nx k o d m (-1) with ⟨ys, k1, k2⟩ | ⟨k1, k2⟩
    · rcases mostF_cases n nx k o d (l ++ m) (-1) with ⟨zs, g1, g2⟩ | ⟨g1, g2⟩
      · rw [List.map_append, h1, k1, ← List.map_append] at g1
        have e := some_inj g1
        subst e
        rw [maxF_app] at g2
        have e1 := maxF_ge xs (-1)
        have e2 := maxF_ge ys (-1)
        have e3 : maxF ys (maxF xs (-1)) = max (maxF ys (-1)) (maxF xs (-1)) := by
          rw [← maxF_max, show max (-1) (maxF xs (-1)) = maxF xs (-1) by omega]
        omega
      · rw [List.map_append, h1, k1, ← List.map_append] at g1
        exact absurd g1 no_none
    · rcases mostF_cases n nx k o d (l ++ m) (-1) with ⟨zs, g1, g2⟩ | ⟨g1, g2⟩
      · have : none ∈ (l ++ m).map (needR n nx k o d) := by rw [List.map_append]; exact List.mem_append.2 (.inr k1)
        rw [g1] at this
        exact absurd this no_none
      · omega
  · rcases mostF_cases n nx k o d (l ++ m) (-1) with ⟨zs, g1, g2⟩ | ⟨g1, g2⟩
    · have : none ∈ (l ++ m).map (needR n nx k o d) := by rw [List.map_append]; exact List.mem_append.2 (.inl h1)
      rw [g1] at this
      exact absurd this no_none
    · omega
/-- The promises for all days, and for both parts. -/
theorem mostR_parts {n : Net} {nx : List NsC} {k o d : Nat} (hG : Good n) (hk : k < n.clss.length) {fr mid till : Int} (h1 : fr ≤ mid) (h2 : mid ≤ till) (h3 : till ≤ fr + 59) :
    -1 ≤ mostR n nx k o d fr till ∧ (mostR n nx k o d fr till = max (mostR n nx k o d fr mid) (mostR n nx k o d mid till) ∨ mostR n nx k o d fr till = -1 ∧ min (mostR n nx k o d fr mid) (mostR n nx k o d mid till) < 0) := by
  have hc := hG.cls _ (List.mem_of_getElem? (clsAt_get hk))
  have hcut := cuts_cut (c := calAt n o) hc.1 hc.2.1 (M := 1440 * mid) (T := 1440 * till) (by omega) _ (1440 * fr) (Nat.le_refl _) (by omega) (by omega)
  have := mostF_app n nx k o d (cuts (calAt n o) (clsAt n k).cut (1440 * mid) (1440 * fr)) (cuts (calAt n o) (clsAt n k).cut (1440 * till) (1440 * mid)) rfl rfl rfl
  rw [← hcut] at this
  exact this
end Go.Proofs.YtldkmljjmnaefaaGreatDoor
namespace Go.Proofs.YtldkmljjmnaefaaGreatDoor
open Go.ChangeShapes Go.WideShapes Go.ChangeAt Go.RowKit Go.WideMaps Go.WideElems
open Go.ChangeMaps (open_string shut_string)

abbrev OI64 (n : Int) : Prop := -9223372036854775808 ≤ n ∧ n ≤ 9223372036854775807
theorem own : ownKnob Tryz.prog.godebug = none := by kernel_rfl
theorem laidOut : laidOutB Tryz.prog = true := by kernel_rfl
theorem ba_of_list {s : ByteArray} {l : List UInt8} (h : s.data.toList = l) : s = ⟨l.toArray⟩ := by
  cases s; simp at h; subst h; simp
theorem ba_len {l : List UInt8} (h : (ByteArray.mk l.toArray).size ≤ maxLen) : l.length ≤ 9223372036854775807 := by
  unfold maxLen at h
  exact h
section
variable {H : Type} {enc : TypeId × Value → H} {P : Program}
/-- The row's last step where below the old memory nothing has changed. -/
theorem post_of_below {f : Func} {s : ChangeSpec} {apart fresh handsOn again : Bool} {W W' : World} {args : Array Value} {v : Value} {ds gs : List (DataW H)} {before pa pv : List MemPlace}
    (hW : DataW.Whole enc P f.params.toList s.vars apart W args.toList ds gs before)
    (hres : ∀ (b : Nat) (sp : Nat → Bool) (hd : Bool), DataW.TrodAll enc P W' b sp hd f.resultTypes.toList (v.resultList f.resultTypes.size) (s.fn H (ds ++ gs)).results [])
    (hargs : ∀ sp : Nat → Bool, (∀ p ∈ before, sp p.block = true) → DataW.TrodAll enc P W' 0 sp true f.params.toList args.toList (s.fn H (ds ++ gs)).args pa)
    (hvars : ∀ sp : Nat → Bool, (∀ p ∈ before, sp p.block = true) → DataW.TrodVars enc P W' sp s.vars (s.fn H (ds ++ gs)).vars pv)
    (hps : before = pa ++ pv) (hb : Below W.heap.size W W')
    (hok : ∀ (j : Nat) (t : TypeId) (r : Value), f.resultTypes[j]? = some t → (v.resultList f.resultTypes.size)[j]? = some r → Value.okWide P W' .any 0 t r) :
    s.post enc P f apart fresh handsOn again W args v W' := by
  have hlt : ∀ p ∈ before, p.block < W.heap.size := fun p hp => hW.lt p hp
  have hold : ∀ p ∈ before, (fun b => decide (b < W.heap.size)) p.block = true := fun p hp => by simpa using hlt p hp
  refine ⟨ds, gs, before, [], pa, pv, hW, hres _ _ _, hargs _ hold, hvars _ hold, World.keptBut_mono (fun p hp => ⟨hp, ?_⟩) (hb.frame (· ∈ before)), fun _ => ?_⟩
  · rw [hps, List.mem_append] at hp
    exact Or.inr hp
  · obtain ⟨_, _, _, _, _, hz, hn⟩ := hW
    refine ⟨hok, _, _, ([] ++ pa) ++ pv, ⟨[] ++ pa, pv, trodAll_append (hargs _ (fun _ _ => rfl)) (hres _ _ _), hvars _ (fun _ _ => rfl), rfl, ?_, ?_⟩, ?_⟩
    · intro b off hp
      have hin : MemPlace.cell b off ∈ before := by rw [hps]; simpa using hp
      rw [hb.frozen (hlt _ hin)]
      exact hz b off hin
    · intro ha
      have := hn ha
      rw [hps] at this
      simpa using this
    · intro p hp _
      rw [hps]
      simpa using hp
end


set_option maxRecDepth 100000 in
/-- A slice that came in: its block is there. -/
theorem slice_there {W : World} {base : Nat} {t e : TypeId} {a : Addr} {len cap : Nat} (ht : Tryz.prog.underlying t = some (.slice e)) (h : Value.okWide Tryz.prog W .any base t (.slice (some a) len cap)) : a.spot = none ∧ a.block < W.heap.size := by
  simp only [Value.okWide, ht, Cell.okWide, Cell.ok] at h
  obtain ⟨_, _, _, hs, row, cells, hsh, _⟩ := h
  refine ⟨hs, ?_⟩
  unfold World.shape? at hsh
  split at hsh
  · rename_i hb; exact (Array.getElem?_eq_some_iff.1 hb).1
  · cases hsh
theorem cut (cs : List Value) (o n : Nat) : cs.drop o = (cs.drop o).take n ++ cs.drop (o + n) := by
  rw [← List.drop_drop]; exact (List.take_append_drop n _).symm
theorem choose_list {α : Type} (f : α → Value) (Q : α → Prop) : ∀ (n : Nat) (V : Nat → Value), (∀ i, i < n → ∃ r : α, V i = f r ∧ Q r) → ∃ rows : List α, rows.length = n ∧ (∀ i (h : i < rows.length), V i = f rows[i]) ∧ ∀ r ∈ rows, Q r
  | 0, _, _ => ⟨[], rfl, fun i h => by simp at h, fun r hr => by cases hr⟩
  | n + 1, V, h => by
    obtain ⟨rows, h1, h2, h3⟩ := choose_list f Q n V (fun i hi => h i (by omega))
    obtain ⟨r, hr1, hr2⟩ := h n (by omega)
    refine ⟨rows ++ [r], by simp [h1], fun i hi => ?_, fun x hx => ?_⟩
    · by_cases hin : i < rows.length
      · rw [List.getElem_append_left hin]; exact h2 i hin
      · have : i = rows.length := by simp at hi; omega
        subst this
        rw [List.getElem_append_right (Nat.le_refl _)]
        simpa [h1] using hr1
    · rcases List.mem_append.1 hx with hx | hx
      · exact h3 x hx
      · rw [List.mem_singleton.1 hx]; exact hr2
theorem fld {H : Type} {enc : TypeId × Value → H} {W : World} {m i o k : Nat} {t : TypeId} {cs : List Value} {xs : List (DataW H × List MemPlace)} (hc : Tryz.prog.cellsOf t = k) (hi : i < xs.length) (h : DataW.trod enc Tryz.prog W 0 (fun _ => true) true m t ((cs.drop o).take (Tryz.prog.cellsOf t)) = xs[i]?) :
    ∃ y, DataW.trod enc Tryz.prog W 0 (fun _ => true) true m t ((cs.drop o).take k) = some y := by
  rw [hc] at h
  exact ⟨_, h.trans (List.getElem?_eq_getElem hi)⟩

theorem str_of {H : Type} {enc : TypeId × Value → H} {W : World} {fuel : Nat} {cs : List Value} {x : DataW H × List MemPlace} (h : DataW.trod enc Tryz.prog W 0 (fun _ => true) true fuel 9 cs = some x) : ∃ l : List UInt8, cs = [sV l] ∧ l.length ≤ maxLen := by
  obtain ⟨s, hs, _, hm⟩ := DataW.trod_string Tryz.underlying9 h
  refine ⟨s.data.toList, by rw [hs], ?_⟩
  rw [Array.length_toList]
  exact hm
theorem int_of {H : Type} {enc : TypeId × Value → H} {W : World} {fuel : Nat} {cs : List Value} {x : DataW H × List MemPlace} (h : DataW.trod enc Tryz.prog W 0 (fun _ => true) true fuel 3 cs = some x) : ∃ n : Int, cs = [iV n] ∧ OI64 n := by
  obtain ⟨z, hz, _, hw⟩ := DataW.trod_int Tryz.underlying3 h
  exact ⟨z, hz, bounds_i64 hw⟩
theorem o_cell {W : World} {a : Addr} {v : Value} (h : W.cell? a = some v) : a.spot = none ∧ a.block < W.heap.size := by
  unfold World.cell? at h
  split at h
  · rename_i hb
    split at h
    · cases h
    · rename_i hs
      exact ⟨by cases ha : a.spot <;> simp_all, (Array.getElem?_eq_some_iff.1 hb).1⟩
  · cases h
theorem o_cells {W : World} {base : Nat} {b off : Nat} : ∀ {n : Nat} {cs : List Value}, W.cells? base ⟨b, off, none⟩ n = some cs → cs.length = n ∧ ∀ i u, cs[i]? = some u → W.cell? ⟨b, off + i, none⟩ = some u := fun {n cs} h => by
  have := World.cells?_some h
  refine ⟨this.2.1, fun i u hu => ?_⟩
  have hi : i < n := by rw [← this.2.1]; exact (List.getElem?_eq_some_iff.1 hu).1
  have h2 := this.2.2 i hi
  rw [add_at] at h2
  rw [h2, hu]
/-- A list of elements of k cells. -/
theorem rowsk_of {α : Type} {f : α → List Value} {Q : α → Prop} {H : Type} {enc : TypeId × Value → H} {W : World} {t e : TypeId} (k : Nat) (hk0 : 0 < k) (ht : Tryz.prog.underlying t = some (.slice e)) (he : Tryz.prog.cellsOf e = k) (hfk : ∀ x, (f x).length = k)
    (hq : ∀ (fuel : Nat) (cs : List Value) (x : DataW H × List MemPlace), DataW.trod enc Tryz.prog W 0 (fun _ => true) true fuel e cs = some x → ∃ r, cs = f r ∧ Q r)
    {cs : List Value} {fuel : Nat} {x : DataW H × List MemPlace} (hf : DataW.trod enc Tryz.prog W 0 (fun _ => true) true fuel t cs = some x) :
    ∃ A c ns, cs = [.slice A (List.length ns) c] ∧ Rd W A (ns.flatMap f) ∧ ns.length ≤ c ∧ c ≤ maxLen ∧ ∀ n ∈ ns, Q n := by
  rcases Deep.open_slice ht hf with ⟨hcs, hx⟩ | ⟨a, len, cap, m, n, D, Pl, hcs, _, hl, hm, hmm, hx, hc⟩
  · exact ⟨none, 0, [], hcs, Rd.nil _ _, Nat.le_refl _, Nat.zero_le _, fun n hn => by cases hn⟩
  · simp at hmm
    subst hmm
    by_cases hz : len = 0
    · subst hz
      exact ⟨some a, m, [], hcs, Rd.nil _ _, Nat.zero_le _, hm, fun n hn => by cases hn⟩
    rw [he] at hc
    obtain ⟨bl, off, sp⟩ := a
    have hsp : sp = none ∧ bl < W.heap.size := by
      obtain ⟨cs0, h0, _⟩ := hc 0 (by omega)
      have h1 := World.cells?_some h0
      have h2 := h1.2.2 0 hk0
      rw [show (Addr.add (Addr.add ⟨bl, off, sp⟩ (0 * k)) 0) = ⟨bl, off, sp⟩ by rw [Nat.zero_mul]; rfl, List.getElem?_eq_getElem (by rw [h1.2.1]; exact hk0)] at h2
      exact o_cell h2
    obtain ⟨rfl, hb⟩ := hsp
    have each : ∀ i, i < len → ∃ r : α, (∀ j u, (f r)[j]? = some u → W.cell? ⟨bl, off + i * k + j, none⟩ = some u) ∧ Q r := fun i hi => by
      obtain ⟨cs', h1, h2⟩ := hc i (by omega)
      obtain ⟨r, rfl, hr⟩ := hq _ _ _ h2
      rw [add_at] at h1
      exact ⟨r, (o_cells h1).2, hr⟩
    have main : ∀ n, n ≤ len → ∃ rows : List α, rows.length = n ∧ (∀ i (h : i < rows.length) j u, (f rows[i])[j]? = some u → W.cell? ⟨bl, off + i * k + j, none⟩ = some u) ∧ ∀ r ∈ rows, Q r := by
      intro n
      induction n with
      | zero => exact fun _ => ⟨[], rfl, fun i h => by simp at h, fun r hr => by cases hr⟩
      | succ n ih =>
        intro hn
        obtain ⟨rows, h1, h2, h3⟩ := ih (by omega)
        obtain ⟨r, hr1, hr2⟩ := each n (by omega)
        refine ⟨rows ++ [r], by simp [h1], fun i hi j u hu => ?_, fun x hx => ?_⟩
        · by_cases hin : i < rows.length
          · rw [List.getElem_append_left hin] at hu; exact h2 i hin j u hu
          · have : i = rows.length := by simp at hi; omega
            subst this
            rw [List.getElem_append_right (Nat.le_refl _)] at hu
            simp at hu
            rw [h1]
            exact hr1 j u hu
        · rcases List.mem_append.1 hx with hx | hx
          · exact h3 x hx
          · rw [List.mem_singleton.1 hx]; exact hr2
    obtain ⟨rows, h1, h2, h3⟩ := main len (Nat.le_refl _)
    have flen : ∀ xs : List α, (xs.flatMap f).length = xs.length * k := fun xs => by
      induction xs with
      | nil => simp
      | cons x xs ih => rw [List.flatMap_cons, List.length_append, hfk, ih, List.length_cons, Nat.add_mul]; omega
    have fget : ∀ (xs : List α) (i j : Nat) (hi : i < xs.length), j < k → (xs.flatMap f)[i * k + j]? = (f xs[i])[j]? := by
      intro xs
      induction xs with
      | nil => intro i j hi; simp at hi
      | cons x xs ih =>
        intro i j hi hj
        cases i with
        | zero => rw [List.flatMap_cons]; simp; rw [List.getElem?_append_left (by rw [hfk]; exact hj)]
        | succ i =>
          rw [List.flatMap_cons, List.getElem?_append_right (by rw [hfk, Nat.add_mul]; omega), hfk, show (i + 1) * k + j - k = i * k + j by rw [Nat.add_mul]; omega, ih i j (by simpa using hi) hj]
          rfl
    refine ⟨some ⟨bl, off, none⟩, m, rows, by rw [h1]; exact hcs, .inr ⟨bl, off, rfl, hb, fun q u hu => ?_⟩, by omega, hm, h3⟩
    have hq' : q < rows.length * k := by rw [← flen]; exact (List.getElem?_eq_some_iff.1 hu).1
    have hd : q / k < rows.length := Nat.div_lt_of_lt_mul (by rw [Nat.mul_comm]; exact hq')
    have hqe : q / k * k + q % k = q := by rw [Nat.mul_comm]; exact Nat.div_add_mod q k
    have h5 := fget rows (q / k) (q % k) hd (Nat.mod_lt _ hk0)
    rw [hqe, hu] at h5
    have h6 := h2 (q / k) hd (q % k) u h5.symm
    rw [Nat.add_assoc, hqe] at h6
    exact h6
end Go.Proofs.YtldkmljjmnaefaaGreatDoor
namespace Go.Proofs.YtldkmljjmnaefaaGreatDoor
open Go.ChangeShapes Go.WideShapes Go.ChangeAt Go.RowKit Go.WideMaps Go.WideElems

theorem cell_int : Tryz.prog.cellsOf 3 = 1 := by kernel_rfl
theorem cell_bool : Tryz.prog.cellsOf 4 = 1 := by kernel_rfl
theorem cell_str : Tryz.prog.cellsOf 9 = 1 := by kernel_rfl
theorem cell_ints : Tryz.prog.cellsOf 46 = 1 := by kernel_rfl
theorem cell_bools : Tryz.prog.cellsOf 70 = 1 := by kernel_rfl
theorem cell_strs : Tryz.prog.cellsOf 23 = 1 := by kernel_rfl
theorem cell_cals : Tryz.prog.cellsOf 22 = 1 := by kernel_rfl
theorem cell_ops : Tryz.prog.cellsOf 24 = 1 := by kernel_rfl
theorem cell_offs : Tryz.prog.cellsOf 25 = 1 := by kernel_rfl
theorem cell_lins : Tryz.prog.cellsOf 26 = 1 := by kernel_rfl
theorem cell_clss : Tryz.prog.cellsOf 27 = 1 := by kernel_rfl
theorem cell_cal : Tryz.prog.cellsOf 72 = 3 := by kernel_rfl
theorem cell_op : Tryz.prog.cellsOf 100 = 1 := by kernel_rfl
theorem cell_off : Tryz.prog.cellsOf 49 = 7 := by kernel_rfl
theorem cell_lin : Tryz.prog.cellsOf 59 = 6 := by kernel_rfl
theorem cell_cls : Tryz.prog.cellsOf 54 = 3 := by kernel_rfl
theorem cell_net : Tryz.prog.cellsOf 29 = 6 := by kernel_rfl
theorem flat_one {α : Type} (f : α → Value) (l : List α) : l.flatMap (fun x => [f x]) = l.map f := by
  induction l with
  | nil => rfl
  | cons x l ih => rw [List.flatMap_cons, ih]; rfl
section
variable {H : Type} {enc : TypeId × Value → H} {W : World}
theorem bool_of {fuel : Nat} {cs : List Value} {x : DataW H × List MemPlace} (h : DataW.trod enc Tryz.prog W 0 (fun _ => true) true fuel 4 cs = some x) : ∃ b : Bool, cs = [oV b] ∧ True := by
  obtain ⟨b, hb, _⟩ := DataW.trod_bool Tryz.underlying4 h
  exact ⟨b, hb, trivial⟩
theorem ints_of {fuel : Nat} {cs : List Value} {x : DataW H × List MemPlace} (h : DataW.trod enc Tryz.prog W 0 (fun _ => true) true fuel 46 cs = some x) :
    ∃ A c ns, cs = [.slice A (List.length ns) c] ∧ Rd W A (ns.map iV) ∧ ns.length ≤ maxLen ∧ ∀ n ∈ ns, I64 n := by
  obtain ⟨A, c, ns, h1, h2, h3, h4, h5⟩ := rowsk_of (f := fun n => [iV n]) (Q := I64) 1 (by decide) Tryz.underlying46 cell_int (fun _ => rfl) (fun _ _ _ h => int_of h) h
  rw [flat_one] at h2
  exact ⟨A, c, ns, h1, h2, Nat.le_trans h3 h4, h5⟩
theorem bools_of {fuel : Nat} {cs : List Value} {x : DataW H × List MemPlace} (h : DataW.trod enc Tryz.prog W 0 (fun _ => true) true fuel 70 cs = some x) :
    ∃ A c ns, cs = [.slice A (List.length ns) c] ∧ Rd W A (ns.map oV) ∧ ns.length ≤ maxLen := by
  obtain ⟨A, c, ns, h1, h2, h3, h4, h5⟩ := rowsk_of (f := fun n => [oV n]) (Q := fun _ => True) 1 (by decide) Tryz.underlying70 cell_bool (fun _ => rfl) (fun _ _ _ h => bool_of h) h
  rw [flat_one] at h2
  exact ⟨A, c, ns, h1, h2, Nat.le_trans h3 h4⟩
theorem strs_of {fuel : Nat} {cs : List Value} {x : DataW H × List MemPlace} (h : DataW.trod enc Tryz.prog W 0 (fun _ => true) true fuel 23 cs = some x) :
    ∃ A c ns, cs = [.slice A (List.length ns) c] ∧ Rd W A (ns.map sV) ∧ ns.length ≤ maxLen ∧ ∀ n ∈ ns, n.length ≤ maxLen := by
  obtain ⟨A, c, ns, h1, h2, h3, h4, h5⟩ := rowsk_of (f := fun n : List UInt8 => [sV n]) (Q := fun n => n.length ≤ maxLen) 1 (by decide) Tryz.underlying23 cell_str (fun _ => rfl) (fun _ _ _ h => str_of h) h
  rw [flat_one] at h2
  exact ⟨A, c, ns, h1, h2, Nat.le_trans h3 h4, h5⟩
set_option maxRecDepth 100000 in
theorem cal_of {fuel : Nat} {cs : List Value} {x : DataW H × List MemPlace} (h : DataW.trod enc Tryz.prog W 0 (fun _ => true) true fuel 72 cs = some x) :
    ∃ r : Cal, cs = encCal r ∧ CalIn W r := by
  obtain ⟨xs, m, _, _, hlen, hxl, hf⟩ := DataW.trod_struct Tryz.underlying72 h
  rw [cell_cal] at hlen
  have hxl' : xs.length = 3 := hxl
  obtain ⟨y0, h0⟩ := fld (o := 0) cell_int (by rw [hxl']; decide) (hf 0 _ rfl)
  obtain ⟨x0, e0, f0⟩ := int_of h0
  obtain ⟨y1, h1⟩ := fld (o := 1) cell_bools (by rw [hxl']; decide) (hf 1 _ rfl)
  obtain ⟨A1, c1, x1, e1, f1, g1⟩ := bools_of h1
  obtain ⟨y2, h2⟩ := fld (o := 2) cell_ints (by rw [hxl']; decide) (hf 2 _ rfl)
  obtain ⟨A2, c2, x2, e2, f2, g2, k2⟩ := ints_of h2
  have hcs : cs = [iV x0, .slice A1 x1.length c1, .slice A2 x2.length c2] := by
    have hend : cs.drop 3 = [] := List.drop_eq_nil_of_le (by omega)
    have h00 : cs = cs.drop 0 := rfl
    rw [h00, cut cs 0 1, e0, show 0 + 1 = 1 from rfl, cut cs 1 1, e1, show 1 + 1 = 2 from rfl, cut cs 2 1, e2, show 2 + 1 = 3 from rfl, hend]
    rfl
  exact ⟨⟨x0, x1, A1, c1, x2, A2, c2⟩, hcs, f0, f1, f2, k2, g1, g2⟩
set_option maxRecDepth 100000 in
theorem op_of {fuel : Nat} {cs : List Value} {x : DataW H × List MemPlace} (h : DataW.trod enc Tryz.prog W 0 (fun _ => true) true fuel 100 cs = some x) :
    ∃ r : List UInt8, cs = encOp r ∧ r.length ≤ maxLen := by
  obtain ⟨xs, m, _, _, hlen, hxl, hf⟩ := DataW.trod_struct Tryz.underlying100 h
  rw [cell_op] at hlen
  have hxl' : xs.length = 1 := hxl
  obtain ⟨y0, h0⟩ := fld (o := 0) cell_str (by rw [hxl']; decide) (hf 0 _ rfl)
  obtain ⟨x0, e0, f0⟩ := str_of h0
  have hcs : cs = [sV x0] := by
    have hend : cs.drop 1 = [] := List.drop_eq_nil_of_le (by omega)
    have h00 : cs = cs.drop 0 := rfl
    rw [h00, cut cs 0 1, e0, show 0 + 1 = 1 from rfl, hend]
    rfl
  exact ⟨x0, hcs, f0⟩
set_option maxRecDepth 100000 in
theorem off_of {fuel : Nat} {cs : List Value} {x : DataW H × List MemPlace} (h : DataW.trod enc Tryz.prog W 0 (fun _ => true) true fuel 49 cs = some x) :
    ∃ r : Off, cs = encOff r ∧ OffIn W r := by
  obtain ⟨xs, m, _, _, hlen, hxl, hf⟩ := DataW.trod_struct Tryz.underlying49 h
  rw [cell_off] at hlen
  have hxl' : xs.length = 7 := hxl
  obtain ⟨y0, h0⟩ := fld (o := 0) cell_str (by rw [hxl']; decide) (hf 0 _ rfl)
  obtain ⟨x0, e0, f0⟩ := str_of h0
  obtain ⟨y1, h1⟩ := fld (o := 1) cell_int (by rw [hxl']; decide) (hf 1 _ rfl)
  obtain ⟨x1, e1, f1⟩ := int_of h1
  obtain ⟨y2, h2⟩ := fld (o := 2) cell_int (by rw [hxl']; decide) (hf 2 _ rfl)
  obtain ⟨x2, e2, f2⟩ := int_of h2
  obtain ⟨y3, h3⟩ := fld (o := 3) cell_int (by rw [hxl']; decide) (hf 3 _ rfl)
  obtain ⟨x3, e3, f3⟩ := int_of h3
  obtain ⟨y4, h4⟩ := fld (o := 4) cell_int (by rw [hxl']; decide) (hf 4 _ rfl)
  obtain ⟨x4, e4, f4⟩ := int_of h4
  obtain ⟨y5, h5⟩ := fld (o := 5) cell_int (by rw [hxl']; decide) (hf 5 _ rfl)
  obtain ⟨x5, e5, f5⟩ := int_of h5
  obtain ⟨y6, h6⟩ := fld (o := 6) cell_strs (by rw [hxl']; decide) (hf 6 _ rfl)
  obtain ⟨A6, c6, x6, e6, f6, g6, k6⟩ := strs_of h6
  have hcs : cs = [sV x0, iV x1, iV x2, iV x3, iV x4, iV x5, .slice A6 x6.length c6] := by
    have hend : cs.drop 7 = [] := List.drop_eq_nil_of_le (by omega)
    have h00 : cs = cs.drop 0 := rfl
    rw [h00, cut cs 0 1, e0, show 0 + 1 = 1 from rfl, cut cs 1 1, e1, show 1 + 1 = 2 from rfl, cut cs 2 1, e2, show 2 + 1 = 3 from rfl, cut cs 3 1, e3, show 3 + 1 = 4 from rfl, cut cs 4 1, e4, show 4 + 1 = 5 from rfl, cut cs 5 1, e5, show 5 + 1 = 6 from rfl, cut cs 6 1, e6, show 6 + 1 = 7 from rfl, hend]
    rfl
  exact ⟨⟨x0, x1, x2, x3, x4, x5, x6, A6, c6⟩, hcs, ⟨f0, f1, f2, f3, f4, f5⟩, f6, k6, g6⟩
set_option maxRecDepth 100000 in
theorem lin_of {fuel : Nat} {cs : List Value} {x : DataW H × List MemPlace} (h : DataW.trod enc Tryz.prog W 0 (fun _ => true) true fuel 59 cs = some x) :
    ∃ r : Lin, cs = encLin r ∧ LinIn r := by
  obtain ⟨xs, m, _, _, hlen, hxl, hf⟩ := DataW.trod_struct Tryz.underlying59 h
  rw [cell_lin] at hlen
  have hxl' : xs.length = 6 := hxl
  obtain ⟨y0, h0⟩ := fld (o := 0) cell_str (by rw [hxl']; decide) (hf 0 _ rfl)
  obtain ⟨x0, e0, f0⟩ := str_of h0
  obtain ⟨y1, h1⟩ := fld (o := 1) cell_int (by rw [hxl']; decide) (hf 1 _ rfl)
  obtain ⟨x1, e1, f1⟩ := int_of h1
  obtain ⟨y2, h2⟩ := fld (o := 2) cell_int (by rw [hxl']; decide) (hf 2 _ rfl)
  obtain ⟨x2, e2, f2⟩ := int_of h2
  obtain ⟨y3, h3⟩ := fld (o := 3) cell_int (by rw [hxl']; decide) (hf 3 _ rfl)
  obtain ⟨x3, e3, f3⟩ := int_of h3
  obtain ⟨y4, h4⟩ := fld (o := 4) cell_int (by rw [hxl']; decide) (hf 4 _ rfl)
  obtain ⟨x4, e4, f4⟩ := int_of h4
  obtain ⟨y5, h5⟩ := fld (o := 5) cell_int (by rw [hxl']; decide) (hf 5 _ rfl)
  obtain ⟨x5, e5, f5⟩ := int_of h5
  have hcs : cs = [sV x0, iV x1, iV x2, iV x3, iV x4, iV x5] := by
    have hend : cs.drop 6 = [] := List.drop_eq_nil_of_le (by omega)
    have h00 : cs = cs.drop 0 := rfl
    rw [h00, cut cs 0 1, e0, show 0 + 1 = 1 from rfl, cut cs 1 1, e1, show 1 + 1 = 2 from rfl, cut cs 2 1, e2, show 2 + 1 = 3 from rfl, cut cs 3 1, e3, show 3 + 1 = 4 from rfl, cut cs 4 1, e4, show 4 + 1 = 5 from rfl, cut cs 5 1, e5, show 5 + 1 = 6 from rfl, hend]
    rfl
  exact ⟨⟨x0, x1, x2, x3, x4, x5⟩, hcs, f0, f1, f2, f3, f4, f5⟩
set_option maxRecDepth 100000 in
theorem cls_of {fuel : Nat} {cs : List Value} {x : DataW H × List MemPlace} (h : DataW.trod enc Tryz.prog W 0 (fun _ => true) true fuel 54 cs = some x) :
    ∃ r : Cls, cs = encCls r ∧ ClsIn r := by
  obtain ⟨xs, m, _, _, hlen, hxl, hf⟩ := DataW.trod_struct Tryz.underlying54 h
  rw [cell_cls] at hlen
  have hxl' : xs.length = 3 := hxl
  obtain ⟨y0, h0⟩ := fld (o := 0) cell_str (by rw [hxl']; decide) (hf 0 _ rfl)
  obtain ⟨x0, e0, f0⟩ := str_of h0
  obtain ⟨y1, h1⟩ := fld (o := 1) cell_int (by rw [hxl']; decide) (hf 1 _ rfl)
  obtain ⟨x1, e1, f1⟩ := int_of h1
  obtain ⟨y2, h2⟩ := fld (o := 2) cell_int (by rw [hxl']; decide) (hf 2 _ rfl)
  obtain ⟨x2, e2, f2⟩ := int_of h2
  have hcs : cs = [sV x0, iV x1, iV x2] := by
    have hend : cs.drop 3 = [] := List.drop_eq_nil_of_le (by omega)
    have h00 : cs = cs.drop 0 := rfl
    rw [h00, cut cs 0 1, e0, show 0 + 1 = 1 from rfl, cut cs 1 1, e1, show 1 + 1 = 2 from rfl, cut cs 2 1, e2, show 2 + 1 = 3 from rfl, hend]
    rfl
  exact ⟨⟨x0, x1, x2⟩, hcs, f0, f1, f2⟩
set_option maxRecDepth 100000 in
theorem net_of {fuel : Nat} {cs : List Value} {x : DataW H × List MemPlace} (h : DataW.trod enc Tryz.prog W 0 (fun _ => true) true fuel 29 cs = some x) :
    ∃ n : Net, cs = (netCells n).toList ∧ NetIn W n := by
  obtain ⟨xs, m, _, _, hlen, hxl, hf⟩ := DataW.trod_struct Tryz.underlying29 h
  rw [cell_net] at hlen
  have hxl' : xs.length = 6 := hxl
  obtain ⟨y0, h0⟩ := fld (o := 0) cell_cals (by rw [hxl']; decide) (hf 0 _ rfl)
  obtain ⟨A0, c0, x0, e0, f0, b0, d0, k0⟩ := rowsk_of (f := encCal) (Q := CalIn W) 3 (by decide) Tryz.underlying22 cell_cal encCal_len (fun _ _ _ h => cal_of h) h0
  obtain ⟨y1, h1⟩ := fld (o := 1) cell_strs (by rw [hxl']; decide) (hf 1 _ rfl)
  obtain ⟨A1, c1, x1, e1, f1, g1, k1⟩ := strs_of h1
  obtain ⟨y2, h2⟩ := fld (o := 2) cell_ops (by rw [hxl']; decide) (hf 2 _ rfl)
  obtain ⟨A2, c2, x2, e2, f2, b2, d2, k2⟩ := rowsk_of (f := encOp) (Q := fun r => r.length ≤ maxLen) 1 (by decide) Tryz.underlying24 cell_op encOp_len (fun _ _ _ h => op_of h) h2
  obtain ⟨y3, h3⟩ := fld (o := 3) cell_offs (by rw [hxl']; decide) (hf 3 _ rfl)
  obtain ⟨A3, c3, x3, e3, f3, b3, d3, k3⟩ := rowsk_of (f := encOff) (Q := OffIn W) 7 (by decide) Tryz.underlying25 cell_off encOff_len (fun _ _ _ h => off_of h) h3
  obtain ⟨y4, h4⟩ := fld (o := 4) cell_lins (by rw [hxl']; decide) (hf 4 _ rfl)
  obtain ⟨A4, c4, x4, e4, f4, b4, d4, k4⟩ := rowsk_of (f := encLin) (Q := LinIn) 6 (by decide) Tryz.underlying26 cell_lin encLin_len (fun _ _ _ h => lin_of h) h4
  obtain ⟨y5, h5⟩ := fld (o := 5) cell_clss (by rw [hxl']; decide) (hf 5 _ rfl)
  obtain ⟨A5, c5, x5, e5, f5, b5, d5, k5⟩ := rowsk_of (f := encCls) (Q := ClsIn) 3 (by decide) Tryz.underlying27 cell_cls encCls_len (fun _ _ _ h => cls_of h) h5
  have hcs : cs = [.slice A0 x0.length c0, .slice A1 x1.length c1, .slice A2 x2.length c2, .slice A3 x3.length c3, .slice A4 x4.length c4, .slice A5 x5.length c5] := by
    have hend : cs.drop 6 = [] := List.drop_eq_nil_of_le (by omega)
    have h00 : cs = cs.drop 0 := rfl
    rw [h00, cut cs 0 1, e0, show 0 + 1 = 1 from rfl, cut cs 1 1, e1, show 1 + 1 = 2 from rfl, cut cs 2 1, e2, show 2 + 1 = 3 from rfl, cut cs 3 1, e3, show 3 + 1 = 4 from rfl, cut cs 4 1, e4, show 4 + 1 = 5 from rfl, cut cs 5 1, e5, show 5 + 1 = 6 from rfl, hend]
    rfl
  exact ⟨⟨x0, A0, c0, x1, A1, c1, x2, A2, c2, x3, A3, c3, x4, A4, c4, x5, A5, c5⟩, hcs, ⟨f0, k0, f1, k1, by rw [← encOp_map]; exact f2, k2, f3, k3, f4, k4, f5, k5, ⟨Nat.le_trans b0 d0, g1, Nat.le_trans b2 d2, Nat.le_trans b3 d3, Nat.le_trans b4 d4, Nat.le_trans b5 d5⟩⟩⟩

set_option maxRecDepth 100000 in
theorem open_net {base : Nat} {v : Value} {d : DataW H} {ps : List MemPlace} (hval : Value.okWide Tryz.prog W .any base 29 v) (h : DataW.Trod enc Tryz.prog W 0 (fun _ => true) true 29 v d ps) :
    ∃ n : Net, v = netV n ∧ NetIn W n := by
  have hv : ∃ cs, v = .agg cs := by
    unfold Value.okWide at hval
    rw [Tryz.underlying29] at hval
    obtain ⟨cs, hcs, _⟩ := hval
    exact ⟨cs, hcs⟩
  obtain ⟨cs, rfl⟩ := hv
  obtain ⟨fuel, hf⟩ := h
  obtain ⟨n, h1, h2⟩ := net_of hf
  have h3 : cs.toList = (netCells n).toList := h1
  have h4 : cs = netCells n := by rw [← Array.toArray_toList (xs := cs), h3]
  exact ⟨n, by rw [h4]; rfl, h2⟩
set_option maxRecDepth 100000 in
theorem open_tab {base : Nat} {v : Value} {d : DataW H} {ps : List MemPlace} (hval : Value.okWide Tryz.prog W .any base 30 v) (h : DataW.Trod enc Tryz.prog W 0 (fun _ => true) true 30 v d ps) :
    ∃ A c nx, v = .slice A (List.length nx) c ∧ Tab W A nx ∧ nx.length ≤ maxLen := by
  obtain ⟨A, len, cap, rfl⟩ := okWide_slice Tryz.underlying30 hval
  obtain ⟨fuel, hf⟩ := h
  obtain ⟨A', c, ws, h1, h2, h3, h4, h5⟩ := rowsk_of (f := fun x : NsC => [slI x]) (Q := fun x => Rd W x.A (x.ns.map iV) ∧ (∀ n ∈ x.ns, I64 n) ∧ x.ns.length ≤ maxLen) 1 (by decide) Tryz.underlying30 cell_ints (fun _ => rfl)
    (fun _ _ _ h => by obtain ⟨A, c, ns, g1, g2, g3, g4⟩ := ints_of h; exact ⟨⟨ns, A, c⟩, g1, g2, g4, g3⟩) hf
  rw [flat_one] at h2
  simp [Value.cells] at h1
  obtain ⟨rfl, rfl, rfl⟩ := h1
  exact ⟨_, _, ws, rfl, ⟨h2, h5⟩, Nat.le_trans h3 h4⟩
end
end Go.Proofs.YtldkmljjmnaefaaGreatDoor
namespace Go.Proofs.YtldkmljjmnaefaaGreatDoor
open Go.ChangeShapes Go.WideShapes Go.ChangeAt Go.RowKit Go.WideMaps Go.WideElems
open Go.ChangeMaps (open_string shut_string)

theorem gKey : Tryz.prog.globalNamed "postilion/survey.keyWords" = some 0 := by kernel_rfl
theorem gKeyType : (Tryz.prog.globals[0]?).map (·.type) = some 149 := by kernel_rfl
theorem cellsKey : Tryz.prog.cellsOf 149 = 17 := by kernel_rfl
/-- An array of strings that reads as a table of strings holds them, cell for cell. -/
theorem cells_of_strs {H : Type} {enc : TypeId × Value → H} {P : Program} {w : World} {base : Nat} {sp : Nat → Bool} {held : Bool} {fuel : Nat} {t e : TypeId} {n : Nat} {cs : List Value} {zs : List (List UInt8)} {p : List MemPlace}
    (ht : P.underlying t = some (.array n e)) (he : P.underlying e = some .string) (hce : P.cellsOf e = 1) (hct : P.cellsOf t = n)
    (h : DataW.trod enc P w base sp held fuel t cs = some (.agg (zs.map fun z => .lit (.string z)), p)) : cs = zs.map fun z => Value.string ⟨z.toArray⟩ := by
  cases fuel with
  | zero => simp [DataW.trod] at h
  | succ fuel =>
    simp only [DataW.trod, ht, hce, hct, Nat.mul_one] at h
    split at h
    · rename_i hl
      obtain ⟨xs, hm, hx⟩ := Option.map_eq_some_iff.1 h
      have hxs : xs.map (·.1) = zs.map fun z => (DataW.lit (.string z) : DataW H) := by
        have := congrArg Prod.fst hx
        simpa using this
      have hxl : xs.length = n := by simpa using Lib.mapM_length hm
      have hzl : zs.length = n := by
        have := congrArg List.length hxs
        simp at this
        omega
      apply List.ext_getElem?
      intro i
      by_cases hi : i < n
      · obtain ⟨b, hb, hf⟩ := Lib.mapM_at hm i i (by simp [hi])
        obtain ⟨z, hc, rfl, _⟩ := DataW.trod_string he hf
        have h1 : cs[i]? = some (.string z) := by
          have := congrArg (·[0]?) hc
          simpa [List.getElem?_take, List.getElem?_drop] using this
        have h2 : (xs.map (·.1))[i]? = some (DataW.lit (.string z.data.toList) : DataW H) := by simp [hb]
        rw [hxs] at h2
        simp only [List.getElem?_map, Option.map_eq_some_iff, DataW.lit.injEq, Lit.string.injEq] at h2
        obtain ⟨z', hz', hzz⟩ := h2
        rw [h1, List.getElem?_map, hz', ba_of_list hzz.symm]
        rfl
      · rw [List.getElem?_eq_none (by omega), List.getElem?_eq_none (by simp; omega)]
    · cases h
/-- What the row's list gives: the key words lie in their variable. -/
theorem kw_of_laid {W : World} (h : laidMetH Tryz.prog [("postilion/survey.keyWords", Rows.laid_postilion_survey_keyWords)] W) : KW W := by
  have h' : laidMet Tryz.prog [("postilion/survey.keyWords", Rows.laid_postilion_survey_keyWords)] W := h
  obtain ⟨ps, ⟨g', t', cs, fuel, p, q, hg', ht', hvar, hd, _, _⟩, _⟩ := h'
  obtain rfl := Option.some.inj (gKey.symm.trans hg')
  obtain rfl := Option.some.inj (gKeyType.symm.trans ht')
  have hcs := cells_of_strs (zs := kwL) Tryz.underlying149 Tryz.underlying9 cell_str cellsKey hd
  unfold World.var? at hvar
  rw [gKey] at hvar
  simp only [Option.bind_some] at hvar
  split at hvar
  · rename_i cs' t fr hh
    have : cs' = kwA := by
      have := Option.some.inj hvar
      rw [this]
      cases cs
      simp at hcs
      rw [hcs]
      rfl
    rw [this] at hh
    exact ⟨t, fr, hh⟩
  · cases hvar
/-- A world for the witness: the settled one, the variable holding what its initialiser lays. -/
noncomputable def laidWorld (os : Os) : World :=
  { World.holding Tryz.prog os ⟨#[], #[], []⟩ with heap := (World.holding Tryz.prog os ⟨#[], #[], []⟩).heap.modify 0 fun
      | .cells _ t frozen => .cells kwA t frozen
      | o => o }
end Go.Proofs.YtldkmljjmnaefaaGreatDoor
namespace Go.Proofs.YtldkmljjmnaefaaGreatDoor
open Go.RowKit

theorem inB_nat {i m : Nat} (h : i < m) : inB (i : Int) m = true := inB_iff.2 ⟨by omega, by omega⟩
theorem tOk_of {t : Int} (h0 : 0 ≤ t) (h1 : t ≤ 2000000) : tOk t = true := by unfold tOk; simp [h0, h1]
theorem wayTop_eq {n : Net} {nx : List NsC} (hs : Sound n) (hf : Formed n nx) {o d : Nat} (ho : o < n.offs.length) (hd : d < n.offs.length) {t : Int} (h0 : 0 ≤ t) (h1 : t ≤ 2000000) : wayTop n nx o d t = wayR n nx d 19 o t := by
  unfold wayTop
  rw [if_pos ⟨inB_nat ho, inB_nat hd, tOk_of h0 h1, hs, hf⟩, Int.toNat_natCast, Int.toNat_natCast]
theorem deliveryTop_eq {n : Net} (hs : Sound n) {k o : Nat} (hk : k < n.clss.length) (ho : o < n.offs.length) {t : Int} (h0 : 0 ≤ t) (h1 : t ≤ 2000000) : deliveryTop n k o t = deliveryR (calAt n o) (offAt n o) (clsAt n k) t := by
  unfold deliveryTop
  rw [if_pos ⟨inB_nat hk, inB_nat ho, tOk_of h0 h1, hs⟩, Int.toNat_natCast, Int.toNat_natCast]
theorem cutoffTop_eq {n : Net} (hs : Sound n) {k o : Nat} (hk : k < n.clss.length) (ho : o < n.offs.length) {t : Int} (h0 : 0 ≤ t) (h1 : t ≤ 2000000) : cutoffTop n k o t = firstR (calAt n o) (clsAt n k).cut t := by
  unfold cutoffTop
  rw [if_pos ⟨inB_nat hk, inB_nat ho, tOk_of h0 h1, hs⟩, Int.toNat_natCast, Int.toNat_natCast]
theorem readyTop_eq {n : Net} (hs : Sound n) {o : Nat} (ho : o < n.offs.length) {t : Int} (h0 : 0 ≤ t) (h1 : t ≤ 2000000) : readyTop n o t = readyR (offAt n o) t := by
  unfold readyTop
  rw [if_pos ⟨inB_nat ho, tOk_of h0 h1, hs⟩, Int.toNat_natCast]
def LePair (p q : Int × Int) : Prop := (p.2 != 0) = true ∨ (p.2 = 0 ∧ (q.2 != 0) = true) ∨ (p.2 = 0 ∧ q.2 = 0 ∧ p.1 ≤ q.1)
theorem first_le {c : Cal} {m t u : Int} (h1 : 0 ≤ m) (h2 : m < 1440) (ht : t ≤ u) : LePair (firstR c m t) (firstR c m u) := by
  by_cases h : (firstR c m t).2 = 0
  · by_cases k : (firstR c m u).2 = 0
    · exact .inr (.inr ⟨h, k, firstR_mono h1 h2 ht (firstR_ok h) (firstR_ok k)⟩)
    · exact .inr (.inl ⟨h, by simpa using k⟩)
  · exact .inl (by simpa using h)
theorem cls_ok {n : Net} (hs : Sound n) {k : Nat} (hk : k < n.clss.length) : 0 ≤ (clsAt n k).cut ∧ (clsAt n k).cut < 1440 ∧ 0 ≤ (clsAt n k).deliver ∧ (clsAt n k).deliver < 1440 := hs.1.good.cls _ (List.mem_of_getElem? (clsAt_get hk))
theorem mod_nat (a m : Nat) : Int.tmod (a : Int) (m : Int) = ((a % m : Nat) : Int) := (Int.ofNat_tmod a m).symm
end Go.Proofs.YtldkmljjmnaefaaGreatDoor
namespace Go.Proofs.YtldkmljjmnaefaaGreatDoor
open Go.RowKit

/-- Other minutes at an office; the offices lie elsewhere. -/
def quickN (n : Net) (i : Nat) (v : Int) (A : Option Addr) (c : Nat) : Net := { n with offs := n.offs.set i { offAt n i with minutes := v }, offA := A, offC := c }
theorem quick_len (n : Net) (i : Nat) (v : Int) (A : Option Addr) (c : Nat) : (quickN n i v A c).offs.length = n.offs.length := by simp [quickN]
theorem quick_at {n : Net} {i : Nat} {v : Int} {A : Option Addr} {c : Nat} {o : Nat} (ho : o < n.offs.length) : offAt (quickN n i v A c) o = if o = i then { offAt n i with minutes := v } else offAt n o := by
  have h : (quickN n i v A c).offs[o]? = some (if o = i then { offAt n i with minutes := v } else offAt n o) := by
    show (n.offs.set i _)[o]? = _
    by_cases h : o = i
    · subst h
      rw [List.getElem?_set_self ho, if_pos rfl]
    · rw [List.getElem?_set_ne (fun e => h e.symm), if_neg h, offAt_get ho]
  unfold offAt
  rw [List.getD, h]
  rfl
theorem quick_cal {n : Net} {i : Nat} {v : Int} {A : Option Addr} {c : Nat} (o : Nat) : calAt (quickN n i v A c) o = calAt n o := by
  have h : (offAt (quickN n i v A c) o).cal = (offAt n o).cal := by
    by_cases ho : o < n.offs.length
    · rw [quick_at ho]
      by_cases h : o = i
      · rw [if_pos h, h]
      · rw [if_neg h]
    · have h1 : offAt (quickN n i v A c) o = zOff := by unfold offAt; rw [List.getD, List.getElem?_eq_none (by rw [quick_len]; omega)]; rfl
      have h2 : offAt n o = zOff := by unfold offAt; rw [List.getD, List.getElem?_eq_none (by omega)]; rfl
      rw [h1, h2]
  unfold calAt
  rw [h]
  rfl
theorem quick_sound {n : Net} {i : Nat} {v : Int} {A : Option Addr} {c : Nat} (hs : Sound n) (hi : i < n.offs.length) (h1 : 1 ≤ v) (h2 : v ≤ (offAt n i).minutes) : Sound (quickN n i v A c) := by
  obtain ⟨hc, hd⟩ := hs
  have hb : ∀ o, officeB (quickN n i v A c) o = officeB n o := fun o => rfl
  refine ⟨⟨hc.same, hc.cal, hc.op, ?_, ?_, hc.cls⟩, fun b hb a ha => ?_⟩
  · rw [quick_len]
    refine ⟨hc.off.1, fun j hj => ?_⟩
    have hnm : ∀ j < n.offs.length, nmOff (quickN n i v A c) j = nmOff n j := fun j hj => by
      unfold nmOff
      rw [quick_at hj]
      by_cases h : j = i
      · rw [if_pos h, h]
      · rw [if_neg h]
    obtain ⟨p1, p2, p3⟩ := hc.off.2 j hj
    refine ⟨by rw [hnm j hj]; exact p1, (fresh_iff _ _).2 fun z hz => by rw [hnm z (by omega), hnm j hj]; exact (fresh_iff _ _).1 p2 z hz, fun x hx => ?_⟩
    rw [offAt_get (by rw [quick_len]; exact hj), quick_at hj] at hx
    cases hx
    rw [hb]
    by_cases h : j = i
    · subst h
      rw [if_pos rfl]
      have := officeB_iff.1 (p3 _ (offAt_get hj))
      exact officeB_iff.2 ⟨this.1, this.2.1, this.2.2.1, h1, by have := this.2.2.2.2; show v ≤ 240; omega⟩
    · rw [if_neg h]
      exact p3 _ (offAt_get hj)
  · have hl : ∀ l, lineB (quickN n i v A c) l = lineB n l := fun l => by unfold lineB; rw [quick_len]
    refine ⟨hc.lin.1, fun j hj => ?_⟩
    obtain ⟨p1, p2, p3⟩ := hc.lin.2 j hj
    exact ⟨p1, p2, fun x hx => by rw [hl]; exact p3 x hx⟩
  · rw [quick_len] at ha hb
    exact hd b hb a ha
theorem quick_formed {n : Net} {i : Nat} {v : Int} {A : Option Addr} {c : Nat} {nx : List NsC} (hf : Formed n nx) : Formed (quickN n i v A c) nx := by
  unfold Formed
  rw [quick_len]
  exact hf
theorem quick_quick {n : Net} {i : Nat} {v : Int} {A : Option Addr} {c : Nat} (hs : Sound n) (hi : i < n.offs.length) (h2 : v ≤ (offAt n i).minutes) : Quick (quickN n i v A c) n := by
  refine ⟨rfl, quick_len _ _ _ _ _, quick_cal, fun o ho t u htu => ?_⟩
  unfold readyR
  rw [quick_at ho]
  by_cases h : o = i
  · subst h
    rw [if_pos rfl]
    have := hs.1.good.off _ (List.mem_of_getElem? (offAt_get ho))
    have h3 : (offAt n o).passes * v ≤ (offAt n o).passes * (offAt n o).minutes := Int.mul_le_mul_of_nonneg_left h2 (by omega)
    show t + (offAt n o).passes * v ≤ _
    omega
  · rw [if_neg h]
    omega
theorem flat_set1 {α : Type} (f : α → List Value) (k : Nat) (hk : ∀ x, (f x).length = k) : ∀ (l : List α) (i j : Nat) (x y : α) (v : Value), l[i]? = some x → j < k → f y = (f x).set j v → (l.flatMap f).set (i * k + j) v = (l.set i y).flatMap f
  | [], i, _, _, _, _, h, _, _ => by simp at h
  | z :: l, 0, j, x, y, v, h, hj, hy => by
    cases h
    rw [Nat.zero_mul, Nat.zero_add, List.flatMap_cons, List.set_cons_zero, List.flatMap_cons, List.set_append_left _ _ (by rw [hk]; exact hj), hy]
  | z :: l, i + 1, j, x, y, v, h, hj, hy => by
    rw [List.flatMap_cons, List.set_cons_succ, List.flatMap_cons, List.set_append_right _ _ (by rw [hk, Nat.succ_mul]; omega), hk, show (i + 1) * k + j - k = i * k + j by rw [Nat.succ_mul]; omega, flat_set1 f k hk l i j x y v h hj hy]
theorem quick_in {w w' : World} {n : Net} {i : Nat} {v : Int} {A : Option Addr} {c : Nat} (hn : NetIn w n) (hb : Below w.heap.size w w') (hi : i < n.offs.length) (hv : I64 v) (hr : Rd w' A ((n.offs.flatMap encOff).set (i * 7 + 5) (iV v))) : NetIn w' (quickN n i v A c) := by
  have h := hn.below hb
  refine ⟨h.cals, h.cal, h.names, h.name, h.ops, h.op, ?_, fun o ho => ?_, h.lins, h.lin, h.clss, h.cls, ?_⟩
  · have := flat_set1 encOff 7 encOff_len n.offs i 5 (offAt n i) { offAt n i with minutes := v } (iV v) (offAt_get hi) (by omega) rfl
    rw [this] at hr
    exact hr
  · rcases List.mem_or_eq_of_mem_set ho with ho | rfl
    · exact h.off o ho
    · have := h.off _ (List.mem_of_getElem? (offAt_get hi))
      exact ⟨⟨this.1.1, this.1.2.1, this.1.2.2.1, this.1.2.2.2.1, this.1.2.2.2.2.1, hv⟩, this.2⟩
  · have := h.lens
    refine ⟨this.1, this.2.1, this.2.2.1, ?_, this.2.2.2.2⟩
    rw [quick_len]
    exact this.2.2.2.1
end Go.Proofs.YtldkmljjmnaefaaGreatDoor
