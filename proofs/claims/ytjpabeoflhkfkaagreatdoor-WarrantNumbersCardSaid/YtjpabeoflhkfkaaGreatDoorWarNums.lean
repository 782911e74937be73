/-
  The numbers of a certificate, one after the other, and the cut-offs day by day: plain Lean.
-/
import Derived.Test.YtjpabeoflhkfkaaGreatDoorWarKept
namespace Go.Proofs.YtjpabeoflhkfkaaGreatDoor

/-- The days of departure of the ways of a list of cut-offs. -/
def wayL (n : Net) (nx : List NsC) (fr : Int) (o d : Nat) (L : List Int) : List Int := L.flatMap fun t => daysW n fr (wayR n nx d 19 o t).2
theorem keepF_flat {n : Net} {nx : List NsC} {fr : Int} {k o d : Nat} {p : Int} : ∀ L : List Int, (keepF n nx fr k o d p L).1 = 0 → (keepF n nx fr k o d p L).2 = wayL n nx fr o d L
  | [], _ => rfl
  | t :: L, h => by
    unfold keepF at h ⊢
    split at h
    · rename_i g; exact absurd h g
    · rename_i g1
      rw [if_neg g1]
      split at h
      · rename_i g; exact absurd h g
      · rename_i g2
        rw [if_neg g2]
        split at h
        · exact absurd h (by decide)
        · rename_i g3
          rw [if_neg g3]
          simp only at h ⊢
          split at h
          · rename_i g; exact absurd h g
          · rename_i g4
            rw [if_neg g4]
            show (wayW n nx fr o d t).2.1 ++ _ = _
            rw [keepF_flat L (by simpa using g4)]
            rfl
/-- The numbers of one place. -/
def numsP (n : Net) (nx : List NsC) (fr till : Int) (p : Pr) : List Int := if p.pr = -1 then [] else wayL n nx fr p.o p.d (cutsOf n p.k p.o fr till)
theorem keepP_flat {n : Net} {nx : List NsC} {fr till : Int} {p : Pr} (h : (keepP n nx fr till p).1 = 0) : (keepP n nx fr till p).2 = numsP n nx fr till p := by
  unfold keepP at h ⊢
  unfold numsP
  split
  · rfl
  · rename_i g
    rw [if_neg g] at h
    exact keepF_flat _ h
theorem allF_flat {α : Type} {f : α → Int × List Int} {g : α → List Int} (hg : ∀ p, (f p).1 = 0 → (f p).2 = g p) : ∀ l : List α, (allF f l).1 = 0 → (allF f l).2 = l.flatMap g
  | [], _ => rfl
  | p :: l, h => by
    simp only [allF] at h ⊢
    split at h
    · rename_i g1; exact absurd h g1
    · rename_i g1
      rw [if_neg g1]
      split at h
      · rename_i g2; exact absurd h g2
      · rename_i g2
        rw [if_neg g2]
        show (f p).2 ++ _ = _
        rw [allF_flat hg l (by simpa using g2), hg p (by simpa using g1)]
        rfl
theorem writeTop_nums {n : Net} {fr till : Int} {nx : List NsC} {ds : List DaC} (h : (writeTop n fr till nx ds).1 = 0) :
    (writeTop n fr till nx ds).2 = headR n fr till nx ds ++ (tabP 0 ds).flatMap (numsP n nx fr till) ∧ (headR n fr till nx ds ++ (tabP 0 ds).flatMap (numsP n nx fr till)).length ≤ 40000 := by
  unfold writeTop at h ⊢
  split at h
  · rename_i g0
    rw [if_pos g0]
    unfold writeR at h ⊢
    split at h
    · rename_i g; exact absurd h g
    · rename_i g
      rw [if_neg g]
      have e : (allR n nx fr till ds).2 = (tabP 0 ds).flatMap (numsP n nx fr till) := allF_flat (fun p hp => keepP_flat hp) _ (by simpa [allR] using g)
      split at h
      · exact absurd h (by decide)
      · rename_i g2
        rw [if_neg g2]
        rw [e] at g2 ⊢
        exact ⟨rfl, by omega⟩
  · exact absurd h (by decide)
theorem writeTop_err {n : Net} {fr till : Int} {nx : List NsC} {ds : List DaC} (h : (writeTop n fr till nx ds).1 ≠ 0) : (writeTop n fr till nx ds).2 = [] := by
  unfold writeTop at h ⊢
  split
  · rename_i g0
    rw [if_pos g0] at h
    unfold writeR at h ⊢
    split
    · rfl
    · rename_i g
      rw [if_neg g] at h
      split
      · rfl
      · rename_i g2
        rw [if_neg g2] at h
        exact absurd rfl h
  · rfl

/-! The cut-offs day by day. -/
def dcF (c : Cal) (m lo hi : Int) : Nat → Int → List Int
  | 0, _ => []
  | n + 1, D => (if workB c D = true ∧ lo ≤ timeOf c D m ∧ timeOf c D m < hi then [timeOf c D m] else []) ++ dcF c m lo hi n (D + 1)
theorem dcF_last (c : Cal) (m lo hi : Int) : ∀ (n : Nat) (D : Int), dcF c m lo hi (n + 1) D = dcF c m lo hi n D ++ (if workB c (D + n) = true ∧ lo ≤ timeOf c (D + n) m ∧ timeOf c (D + n) m < hi then [timeOf c (D + n) m] else [])
  | 0, D => by simp [dcF]
  | n + 1, D => by
    rw [dcF, dcF_last c m lo hi n (D + 1), dcF, List.append_assoc, show D + 1 + (n : Int) = D + ((n + 1 : Nat) : Int) by omega]
theorem dcF_mem {c : Cal} {m lo hi x : Int} : ∀ (n : Nat) (D : Int), x ∈ dcF c m lo hi n D ↔ ∃ E, (D ≤ E ∧ E < D + n) ∧ (workB c E = true ∧ lo ≤ timeOf c E m ∧ timeOf c E m < hi) ∧ x = timeOf c E m
  | 0, D => by
    simp [dcF]
    intros
    omega
  | n + 1, D => by
    rw [dcF, List.mem_append, dcF_mem n (D + 1)]
    constructor
    · rintro (h | ⟨E, h1, h2, h3⟩)
      · split at h
        · rename_i g
          exact ⟨D, ⟨by omega, by omega⟩, g, by simpa using h⟩
        · cases h
      · exact ⟨E, ⟨by omega, by omega⟩, h2, h3⟩
    · rintro ⟨E, h1, h2, h3⟩
      by_cases hE : E = D
      · subst hE
        left
        rw [if_pos h2, h3]
        exact List.mem_singleton.2 rfl
      · exact .inr ⟨E, ⟨by omega, by omega⟩, h2, h3⟩
theorem dcF_len {c : Cal} {m lo hi : Int} : ∀ (n : Nat) (D : Int), (dcF c m lo hi n D).length ≤ n
  | 0, _ => by simp [dcF]
  | n + 1, D => by
    rw [dcF, List.length_append]
    have := dcF_len (c := c) (m := m) (lo := lo) (hi := hi) n (D + 1)
    split <;> simp <;> omega
theorem dcF_up {c : Cal} {m lo hi : Int} : ∀ (n : Nat) (D : Int), (dcF c m lo hi n D).Pairwise (· < ·)
  | 0, _ => List.Pairwise.nil
  | n + 1, D => by
    rw [dcF]
    refine List.pairwise_append.2 ⟨?_, dcF_up n (D + 1), fun a ha b hb => ?_⟩
    · split <;> simp
    · obtain ⟨E, h1, -, rfl⟩ := (dcF_mem n (D + 1)).1 hb
      split at ha
      · obtain rfl : a = timeOf c D m := by simpa using ha
        unfold timeOf
        omega
      · cases ha
theorem cutsF_up {c : Cal} {m : Int} (h1 : 0 ≤ m) (h2 : m < 1440) (till : Int) : ∀ (f : Nat) (t : Int), (cutsF c m till f t).Pairwise (· < ·)
  | 0, t => by unfold cutsF; exact List.Pairwise.nil
  | f + 1, t => by
    unfold cutsF
    split
    · refine List.pairwise_cons.2 ⟨fun x hx => ?_, cutsF_up h1 h2 till f _⟩
      have := (cutsF_mem c h1 h2 till f _ x hx).1
      omega
    · exact List.Pairwise.nil
theorem cutsF_day {c : Cal} {m : Int} (h1 : 0 ≤ m) (h2 : m < 1440) (till : Int) : ∀ (f : Nat) (t x : Int), x ∈ cutsF c m till f t → ∃ D, x = timeOf c D m ∧ workB c D = true
  | 0, t, x, h => by unfold cutsF at h; cases h
  | f + 1, t, x, h => by
    unfold cutsF at h
    split at h
    · rename_i g
      rcases List.mem_cons.1 h with rfl | h
      · obtain ⟨D, hD, hw, -⟩ := firstR_day h1 h2 (firstR_ok g.1)
        exact ⟨D, hD, hw⟩
      · exact cutsF_day h1 h2 till f _ x h
    · cases h
theorem firstR_at {c : Cal} {m D : Int} (h1 : 0 ≤ m) (h2 : m < 1440) (hw : workB c D = true) : firstR c m (timeOf c D m) = (timeOf c D m, 0) := by
  have e : firstDay c m (timeOf c D m) = D := by
    unfold firstDay dayOf minOf timeOf
    split <;> omega
  rcases firstR_cases c m (timeOf c D m) with ⟨E, hE, h⟩ | ⟨hE, -⟩
  · rw [e] at hE
    obtain ⟨a, -, -, b⟩ := nextW_some hE
    by_cases hl : D < E
    · rw [b D (Int.le_refl _) hl] at hw
      cases hw
    · obtain rfl : D = E := by omega
      exact h
  · rw [e] at hE
    rw [nextW_none hE D (Int.le_refl _) (by omega)] at hw
    cases hw
theorem up_ext : ∀ {l m : List Int}, l.Pairwise (· < ·) → m.Pairwise (· < ·) → (∀ x, x ∈ l ↔ x ∈ m) → l = m
  | [], [], _, _, _ => rfl
  | [], y :: m, _, _, h => by have := (h y).2 (List.mem_cons_self ..); cases this
  | x :: l, [], _, _, h => by have := (h x).1 (List.mem_cons_self ..); cases this
  | x :: l, y :: m, h1, h2, h => by
    obtain ⟨a1, a2⟩ := List.pairwise_cons.1 h1
    obtain ⟨b1, b2⟩ := List.pairwise_cons.1 h2
    have exy : x = y := by
      rcases List.mem_cons.1 ((h x).1 (List.mem_cons_self ..)) with e | e
      · exact e
      · rcases List.mem_cons.1 ((h y).2 (List.mem_cons_self ..)) with e' | e'
        · exact e'.symm
        · have := a1 _ e'
          have := b1 _ e
          omega
    subst exy
    rw [up_ext a2 b2 (fun z => ⟨fun hz => ?_, fun hz => ?_⟩)]
    · rcases List.mem_cons.1 ((h z).1 (List.mem_cons_of_mem _ hz)) with rfl | e
      · have := a1 _ hz; omega
      · exact e
    · rcases List.mem_cons.1 ((h z).2 (List.mem_cons_of_mem _ hz)) with rfl | e
      · have := b1 _ hz; omega
      · exact e
/-- The cut-offs of a plan of twelve days. -/
theorem cuts_days {n : Net} (hG : Good n) {k o : Nat} (hk : k < n.clss.length) (ho : o < n.offs.length) {fr till : Int} (h0 : fr ≤ till) (h12 : till ≤ fr + 12) : dcF (calAt n o) (clsAt n k).cut (1440 * fr) (1440 * till) (till - fr + 5).toNat (fr - 2) = cutsOf n k o fr till := by
  have hc := hG.cls _ (List.mem_of_getElem? (clsAt_get hk))
  obtain ⟨ci, -, -, hcal⟩ := hG.calAt ho
  obtain ⟨z1, z2, -⟩ := calB_zone hcal
  refine up_ext (dcF_up _ _) (cutsF_up hc.1 hc.2.1 _ _ _) (fun x => ?_)
  rw [dcF_mem]
  constructor
  · rintro ⟨E, -, ⟨hw, h1, h2⟩, rfl⟩
    exact cut_in hG hk h1 h12 (firstR_at hc.1 hc.2.1 hw) h2
  · intro hx
    obtain ⟨a, b⟩ := cuts_mem _ hc.1 hc.2.1 hx
    obtain ⟨D, rfl, hw⟩ := cutsF_day hc.1 hc.2.1 _ _ _ _ hx
    refine ⟨D, ?_, ⟨hw, a, b⟩, rfl⟩
    unfold timeOf at a b
    omega
end Go.Proofs.YtjpabeoflhkfkaaGreatDoor
