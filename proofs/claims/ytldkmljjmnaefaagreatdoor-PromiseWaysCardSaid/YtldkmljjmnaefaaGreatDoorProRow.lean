/-
  Rows of a way: what its neighbours are.
-/
import Derived.Test.YtldkmljjmnaefaaGreatDoorPp
namespace Go.Proofs.YtldkmljjmnaefaaGreatDoor
open Go.RowKit

structure RowW (n : Net) (nx : List NsC) (d : Nat) (s s' : St) (o li : Nat) : Prop where
  off : s.office = (o : Int)
  lt : o < n.offs.length
  ne : o ≠ d
  line : s.line = (li : Int)
  nx : nxAt nx o d = (li : Int)
  ll : li < n.lins.length
  frm : (linAt n li).frm = (o : Int)
  am : 0 ≤ (linAt n li).at_ ∧ (linAt n li).at_ < 1440
  tv : 1 ≤ (linAt n li).travel ∧ (linAt n li).travel ≤ 5000
  dep : departR (calAt n o) (linAt n li) (readyR (offAt n o) s.arrive) = (s.depart, 0)
  a0 : 0 ≤ s.arrive
  a1 : s.arrive ≤ 2000000
  r0 : 0 ≤ readyR (offAt n o) s.arrive
  r1 : readyR (offAt n o) s.arrive ≤ 2000000
  dd : readyR (offAt n o) s.arrive ≤ s.depart
  d1 : s.depart ≤ 2090000
  dst : s'.office = (linAt n li).to
  arr : s'.arrive = s.depart + (linAt n li).travel
theorem way_head {n : Net} {nx : List NsC} {d : Nat} : ∀ {l : List St} {o : Nat} {t : Int}, WayOk n nx d o t l → ∃ s, l[0]? = some s ∧ s.office = (o : Int) ∧ s.arrive = t
  | [], _, _, h => h.elim
  | [s], o, t, h => ⟨s, rfl, by rw [h.1], by rw [h.1]⟩
  | s :: s' :: l, o, t, h => ⟨s, rfl, by rw [h.1], by rw [h.1]⟩
theorem way_last {n : Net} {nx : List NsC} {d : Nat} : ∀ {l : List St} {o : Nat} {t : Int}, WayOk n nx d o t l → ∃ s, l[l.length - 1]? = some s ∧ s.office = (d : Int) ∧ s.depart = -1 ∧ s.line = -1
  | [], _, _, h => h.elim
  | [s], o, t, h => ⟨s, rfl, by rw [h.1, ← h.2], by rw [h.1], by rw [h.1]⟩
  | s :: s' :: l, o, t, h => by
    obtain ⟨-, -, -, -, h5⟩ := h
    obtain ⟨r, h1, h2⟩ := way_last h5
    exact ⟨r, by simpa using h1, h2⟩
theorem way_row {n : Net} {nx : List NsC} (hG : Good n) (hF : Formed n nx) {d : Nat} (hd : d < n.offs.length) : ∀ {l : List St} {o : Nat} {t : Int}, o < n.offs.length → 0 ≤ t → WayOk n nx d o t l → ∀ (i : Nat) (s s' : St), l[i]? = some s → l[i + 1]? = some s' → ∃ o li, RowW n nx d s s' o li
  | [], _, _, _, _, h, _, _, _, _, _ => h.elim
  | [_], _, _, _, _, _, i, _, _, _, h2 => by simp at h2
  | s :: s' :: l, o, t, ho, ht, h, i, a, b, ha, hb => by
    obtain ⟨h1, h2, h3, h4, h5⟩ := h
    obtain ⟨q1, q2, q3, q4, q5⟩ := dest_lt hG hF ho hd h3
    obtain ⟨f1, f2, f3⟩ := (formed_at hF ho hd).resolve_left h3
    obtain ⟨li, hli⟩ : ∃ li, li = (nxAt nx o d).toNat := ⟨_, rfl⟩
    rw [← hli] at h1 h4 h5 q1 q2 q3 f3
    have hl : li < n.lins.length := by omega
    have ht2 := hG.lin _ (List.mem_of_getElem? (linAt_get hl))
    obtain ⟨-, p1, p2, m1, m2⟩ := hG.off _ (List.mem_of_getElem? (offAt_get ho))
    have hm := mul_small p1 p2 m1 m2
    have hdp : departR (calAt n o) (linAt n li) (readyR (offAt n o) t) = (s.depart, 0) := by
      rw [h1]
      exact Prod.ext rfl h4
    have hin := departR_in q1.1 q1.2 hdp
    have hrd : readyR (offAt n o) t = t + (offAt n o).passes * (offAt n o).minutes := rfl
    cases i with
    | zero =>
      simp at ha hb
      subst ha hb
      obtain ⟨r, e1, e2, e3⟩ := way_head h5
      simp at e1
      subst e1
      have ea : s.arrive = t := by rw [h1]
      have el : s.line = nxAt nx o d := by rw [h1]
      have eo : s.office = (o : Int) := by rw [h1]
      exact ⟨o, li, ⟨eo, ho, h2, by omega, by omega, hl, f3, q1, ⟨ht2.2.2.2.2.1, ht2.2.2.2.2.2⟩, by rw [ea]; exact hdp, by omega, by omega, by rw [ea]; omega, by rw [ea]; omega, by rw [ea]; omega, by omega, by rw [e2]; exact q3, by rw [e3]⟩⟩
    | succ i =>
      exact way_row hG hF hd q2 (by have := ht2.2.2.2.2.1; omega) h5 i a b (by simpa using ha) (by simpa using hb)
end Go.Proofs.YtldkmljjmnaefaaGreatDoor
