/-
  A plan that has a certificate keeps its promises: plain Lean.
-/
import Derived.Test.YtjpabeoflhkfkaaGreatDoorWarTable
namespace Go.Proofs.YtjpabeoflhkfkaaGreatDoor
open Go.RowKit

theorem allF_all {α : Type} (f : α → Int × List Int) : ∀ l : List α, (allF f l).1 = 0 → ∀ p ∈ l, (f p).1 = 0
  | [], _, p, hp => by cases hp
  | q :: l, h, p, hp => by
    simp only [allF] at h
    split at h
    · rename_i g; exact absurd h g
    · rename_i g
      split at h
      · rename_i g2; exact absurd h g2
      · rename_i g2
        rcases List.mem_cons.1 hp with rfl | hp
        · simpa using g
        · exact allF_all f l (by simpa using g2) p hp
theorem colsP_of {k o : Nat} {x : Int} : ∀ (d0 d : Nat) (l : List Int), l[d]? = some x → ⟨k, o, d0 + d, x⟩ ∈ colsP k o d0 l
  | _, _, [], h => by simp at h
  | d0, 0, y :: l, h => by
    obtain rfl : y = x := by simpa using h
    exact List.mem_cons_self ..
  | d0, d + 1, y :: l, h => by
    have := colsP_of (k := k) (o := o) (d0 + 1) d l (by simpa using h)
    rw [show d0 + (d + 1) = d0 + 1 + d by omega]
    exact List.mem_cons_of_mem _ this
theorem rowsP_of {k d : Nat} {x : Int} {r : NsC} (hx : r.ns[d]? = some x) : ∀ (o0 o : Nat) (l : List NsC), l[o]? = some r → ⟨k, o0 + o, d, x⟩ ∈ rowsP k o0 l
  | _, _, [], h => by simp at h
  | o0, 0, y :: l, h => by
    obtain rfl : y = r := by simpa using h
    have := colsP_of (k := k) (o := o0) 0 d y.ns hx
    rw [Nat.zero_add] at this
    exact List.mem_append_left _ this
  | o0, o + 1, y :: l, h => by
    have := rowsP_of (k := k) hx (o0 + 1) o l (by simpa using h)
    rw [show o0 + (o + 1) = o0 + 1 + o by omega]
    exact List.mem_append_right _ this
theorem tabP_of {o d : Nat} {x : Int} {r : NsC} {y : DaC} (hr : y.rows[o]? = some r) (hx : r.ns[d]? = some x) : ∀ (k0 k : Nat) (l : List DaC), l[k]? = some y → ⟨k0 + k, o, d, x⟩ ∈ tabP k0 l
  | _, _, [], h => by simp at h
  | k0, 0, z :: l, h => by
    obtain rfl : z = y := by simpa using h
    have := rowsP_of (k := k0) hx 0 o z.rows hr
    rw [Nat.zero_add] at this
    exact List.mem_append_left _ this
  | k0, k + 1, z :: l, h => by
    have := tabP_of hr hx (k0 + 1) k l (by simpa using h)
    rw [show k0 + (k + 1) = k0 + 1 + k by omega]
    exact List.mem_append_right _ this
/-- A place of a table of promises. -/
def DsAt (ds : List DaC) (k o d : Nat) (x : Int) : Prop := ∃ y r, ds[k]? = some y ∧ y.rows[o]? = some r ∧ r.ns[d]? = some x
theorem DsAt.mem {ds : List DaC} {k o d : Nat} {x : Int} (h : DsAt ds k o d x) : ⟨k, o, d, x⟩ ∈ tabP 0 ds := by
  obtain ⟨y, r, h1, h2, h3⟩ := h
  have := tabP_of h2 h3 0 k ds h1
  rwa [Nat.zero_add] at this
theorem writeTop_all {n : Net} {fr till : Int} {nx : List NsC} {ds : List DaC} (h : (writeTop n fr till nx ds).1 = 0) : ∀ p ∈ tabP 0 ds, (keepP n nx fr till p).1 = 0 := by
  unfold writeTop at h
  split at h
  · unfold writeR at h
    split at h
    · rename_i g; exact absurd h g
    · rename_i g
      exact allF_all _ _ (by simpa [allR] using g)
  · exact absurd h (by decide)
theorem keepF_all {n : Net} {nx : List NsC} {fr : Int} {k o d : Nat} {p : Int} : ∀ (l : List Int), (keepF n nx fr k o d p l).1 = 0 → ∀ t ∈ l, (wayW n nx fr o d t).1 = 0 ∧ (endW n k d (wayW n nx fr o d t).2.2).2 = 0 ∧ countR (calAt n d) (dayOf (calAt n d) t) (dayOf (calAt n d) (endW n k d (wayW n nx fr o d t).2.2).1) ≤ p
  | [], _, t, ht => by cases ht
  | u :: l, h, t, ht => by
    unfold keepF at h
    split at h
    · rename_i g; exact absurd h g
    · rename_i g1
      split at h
      · rename_i g; exact absurd h g
      · rename_i g2
        split at h
        · exact absurd h (by decide)
        · rename_i g3
          simp only at h
          split at h
          · rename_i g; exact absurd h g
          · rename_i g4
            rcases List.mem_cons.1 ht with rfl | ht
            · exact ⟨by simpa using g1, by simpa using g2, by omega⟩
            · exact keepF_all l (by simpa using g4) t ht
theorem kept_at {n : Net} {fr till : Int} {nx : List NsC} {ds : List DaC} {k o d : Nat} {x : Int} (h : (writeTop n fr till nx ds).1 = 0) (hx : DsAt ds k o d x) (h0 : 0 ≤ x) :
    ∀ t ∈ cutsOf n k o fr till, (wayW n nx fr o d t).1 = 0 ∧ (endW n k d (wayW n nx fr o d t).2.2).2 = 0 ∧ countR (calAt n d) (dayOf (calAt n d) t) (dayOf (calAt n d) (endW n k d (wayW n nx fr o d t).2.2).1) ≤ x := by
  have h1 := writeTop_all h _ hx.mem
  unfold keepP at h1
  rw [if_neg (by show ¬ x = -1; omega)] at h1
  exact keepF_all _ h1
/-! Ways from earlier times. -/
theorem Good.ready {n : Net} (hG : Good n) {o : Nat} (ho : o < n.offs.length) (t : Int) : t ≤ readyR (offAt n o) t ∧ readyR (offAt n o) t ≤ t + 960 := by
  have := hG.off _ (List.mem_of_getElem? (offAt_get ho))
  have := mul_small this.2.1 this.2.2.1 this.2.2.2.1 this.2.2.2.2
  unfold readyR
  omega
theorem departR_ok {c : Cal} {L : Lin} {t : Int} (h : (departR c L t).2 = 0) : tOk t = true ∧ firstR c L.at_ t = ((departR c L t).1, 0) := by
  unfold departR at h ⊢
  by_cases a : tOk t = true
  · rw [if_pos a] at h ⊢
    exact ⟨a, firstR_ok h⟩
  · rw [if_neg a] at h
    exact absurd h (by decide)
/-! A way visits no office twice. -/
theorem WayOk.len_eq {n : Net} {nx : List NsC} {d : Nat} : ∀ (l l' : List St) (o : Nat) (t u : Int), WayOk n nx d o t l → WayOk n nx d o u l' → l.length = l'.length
  | [], _, _, _, _, h, _ => h.elim
  | _, [], _, _, _, _, h => h.elim
  | [_], [_], _, _, _, _, _ => rfl
  | [_], _ :: _ :: _, _, _, _, h, h' => absurd h.2 h'.2.1
  | _ :: _ :: _, [_], _, _, _, h, h' => absurd h'.2 h.2.1
  | s :: a :: l, s' :: b :: l', o, t, u, h, h' => by
    have := WayOk.len_eq (a :: l) (b :: l') _ _ _ h.2.2.2.2 h'.2.2.2.2
    simpa using this
theorem WayOk.seen {n : Net} {nx : List NsC} (hG : Good n) (hF : Formed n nx) {d : Nat} (hd : d < n.offs.length) : ∀ (l : List St) (o : Nat) (t : Int), o < n.offs.length → WayOk n nx d o t l → ∃ S : List Nat, S.length = l.length ∧ S.Nodup ∧ ∀ x ∈ S, x < n.offs.length ∧ ∃ t' l', WayOk n nx d x t' l' ∧ l'.length ≤ l.length
  | [], _, _, _, h => h.elim
  | [s], o, t, ho, h => ⟨[o], rfl, by simp, fun x hx => by rw [List.mem_singleton.1 hx]; exact ⟨ho, t, [s], h, Nat.le_refl _⟩⟩
  | s :: a :: l, o, t, ho, h => by
    obtain ⟨-, p3, -⟩ := dest_lt hG hF ho hd h.2.2.1
    obtain ⟨S, h1, h2, h3⟩ := WayOk.seen hG hF hd (a :: l) _ _ p3 h.2.2.2.2
    refine ⟨o :: S, by simp [h1], List.nodup_cons.2 ⟨fun hx => ?_, h2⟩, fun x hx => ?_⟩
    · obtain ⟨-, t', l', g1, g2⟩ := h3 o hx
      have := WayOk.len_eq _ _ _ _ _ h g1
      simp at this g2
      omega
    · rcases List.mem_cons.1 hx with rfl | hx
      · exact ⟨ho, t, _, h, Nat.le_refl _⟩
      · obtain ⟨g1, t', l', g2, g3⟩ := h3 x hx
        exact ⟨g1, t', l', g2, by simp at g3 ⊢; omega⟩
theorem nodup_le : ∀ (N : Nat) (S : List Nat), S.Nodup → (∀ x ∈ S, x < N) → S.length ≤ N
  | 0, [], _, _ => Nat.le_refl _
  | 0, x :: S, _, h => absurd (h x (List.mem_cons_self ..)) (by omega)
  | N + 1, S, hn, h => by
    have h1 := nodup_le N (S.erase N) (hn.erase N) (fun x hx => by
      have h2 := (hn.mem_erase_iff).1 hx
      have h3 := h x h2.2
      have h4 := h2.1
      omega)
    rw [List.length_erase] at h1
    split at h1 <;> omega
theorem WayOk.short {n : Net} {nx : List NsC} (hG : Good n) (hF : Formed n nx) {d o : Nat} (hd : d < n.offs.length) (ho : o < n.offs.length) {t : Int} {l : List St} (h : WayOk n nx d o t l) : l.length ≤ n.offs.length := by
  obtain ⟨S, h1, h2, h3⟩ := WayOk.seen hG hF hd l o t ho h
  rw [← h1]
  exact nodup_le _ S h2 (fun x hx => (h3 x hx).1)
theorem last_two (s a : St) (l : List St) : lastSt (s :: a :: l) = lastSt (a :: l) := by simp [lastSt, List.getLastD_eq_getLast?]
theorem WayOk.time {n : Net} {nx : List NsC} (hG : Good n) (hF : Formed n nx) {d : Nat} (hd : d < n.offs.length) : ∀ (l : List St) (o : Nat) (t : Int), o < n.offs.length → WayOk n nx d o t l → t ≤ (lastSt l).arrive ∧ (lastSt l).arrive + 96000 ≤ t + 96000 * l.length
  | [], _, _, _, h => h.elim
  | [s], o, t, ho, h => by
    have e : lastSt [s] = s := rfl
    rw [e, h.1]
    simp
  | s :: a :: l, o, t, ho, h => by
    obtain ⟨⟨p1, p2⟩, p3, -, hl1, hl2⟩ := dest_lt hG hF ho hd h.2.2.1
    have htr := hG.lin _ (List.mem_of_getElem? (linAt_get (n := n) (l := (nxAt nx o d).toNat) (by omega)))
    obtain ⟨h1, h2⟩ := WayOk.time hG hF hd (a :: l) _ _ p3 h.2.2.2.2
    have h3 := firstR_in p1 p2 (departR_ok h.2.2.2.1).2
    have h4 := hG.ready ho t
    have h5 : s.depart = (departR (calAt n o) (linAt n (nxAt nx o d).toNat) (readyR (offAt n o) t)).1 := by rw [h.1]
    rw [last_two]
    simp only [List.length_cons] at h2 ⊢
    omega

/-! Days of delivery. -/
end Go.Proofs.YtjpabeoflhkfkaaGreatDoor
