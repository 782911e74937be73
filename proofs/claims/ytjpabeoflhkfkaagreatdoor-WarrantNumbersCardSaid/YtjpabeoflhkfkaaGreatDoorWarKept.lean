/-
  A plan that has a certificate keeps its promises: plain Lean.
-/
import Derived.Test.YtjpabeoflhkfkaaGreatDoorWarTable
namespace Go.Proofs.YtjpabeoflhkfkaaGreatDoor
open Go.RowKit

theorem allF_all {α : Type} (f : α → Int × List Int) : ∀ l : List α, (allF f l).1 = 0 → ∀ p ∈ l, (f p).1 = 0
  | [], _, p, hp => by cases hp
  | q :: l, h, p, hp => by
    simp only [allF] at h
    split at h
    · rename_i g; exact absurd h g
    · rename_i g
      split at h
      · rename_i g2; exact absurd h g2
      · rename_i g2
        rcases List.mem_cons.1 hp with rfl | hp
        · simpa using g
        · exact allF_all f l (by simpa using g2) p hp
theorem colsP_of {k o : Nat} {x : Int} : ∀ (d0 d : Nat) (l : List Int), l[d]? = some x → ⟨k, o, d0 + d, x⟩ ∈ colsP k o d0 l
  | _, _, [], h => by simp at h
  | d0, 0, y :: l, h => by
    obtain rfl : y = x := by simpa using h
    exact List.mem_cons_self ..
  | d0, d + 1, y :: l, h => by
    have := colsP_of (k := k) (o := o) (d0 + 1) d l (by simpa using h)
    rw [show d0 + (d + 1) = d0 + 1 + d by omega]
    exact List.mem_cons_of_mem _ this
theorem rowsP_of {k d : Nat} {x : Int} {r : NsC} (hx : r.ns[d]? = some x) : ∀ (o0 o : Nat) (l : List NsC), l[o]? = some r → ⟨k, o0 + o, d, x⟩ ∈ rowsP k o0 l
  | _, _, [], h => by simp at h
  | o0, 0, y :: l, h => by
    obtain rfl : y = r := by simpa using h
    have := colsP_of (k := k) (o := o0) 0 d y.ns hx
    rw [Nat.zero_add] at this
    exact List.mem_append_left _ this
  | o0, o + 1, y :: l, h => by
    have := rowsP_of (k := k) hx (o0 + 1) o l (by simpa using h)
    rw [show o0 + (o + 1) = o0 + 1 + o by omega]
    exact List.mem_append_right _ this
theorem tabP_of {o d : Nat} {x : Int} {r : NsC} {y : DaC} (hr : y.rows[o]? = some r) (hx : r.ns[d]? = some x) : ∀ (k0 k : Nat) (l : List DaC), l[k]? = some y → ⟨k0 + k, o, d, x⟩ ∈ tabP k0 l
  | _, _, [], h => by simp at h
  | k0, 0, z :: l, h => by
    obtain rfl : z = y := by simpa using h
    have := rowsP_of (k := k0) hx 0 o z.rows hr
    rw [Nat.zero_add] at this
    exact List.mem_append_left _ this
  | k0, k + 1, z :: l, h => by
    have := tabP_of hr hx (k0 + 1) k l (by simpa using h)
    rw [show k0 + (k + 1) = k0 + 1 + k by omega]
    exact List.mem_append_right _ this
/-- A place of a table of promises. -/
def DsAt (ds : List DaC) (k o d : Nat) (x : Int) : Prop := ∃ y r, ds[k]? = some y ∧ y.rows[o]? = some r ∧ r.ns[d]? = some x
theorem DsAt.mem {ds : List DaC} {k o d : Nat} {x : Int} (h : DsAt ds k o d x) : ⟨k, o, d, x⟩ ∈ tabP 0 ds := by
  obtain ⟨y, r, h1, h2, h3⟩ := h
  have := tabP_of h2 h3 0 k ds h1
  rwa [Nat.zero_add] at this
theorem writeTop_all {n : Net} {fr till : Int} {nx : List NsC} {ds : List DaC} (h : (writeTop n fr till nx ds).1 = 0) : ∀ p ∈ tabP 0 ds, (keepP n nx fr till p).1 = 0 := by
  unfold writeTop at h
  split at h
  · unfold writeR at h
    split at h
    · rename_i g; exact absurd h g
    · rename_i g
      exact allF_all _ _ (by simpa [allR] using g)
  · exact absurd h (by decide)
theorem keepF_all {n : Net} {nx : List NsC} {fr : Int} {k o d : Nat} {p : Int} : ∀ (l : List Int), (keepF n nx fr k o d p l).1 = 0 → ∀ t ∈ l, (wayW n nx fr o d t).1 = 0 ∧ (endW n k d (wayW n nx fr o d t).2.2).2 = 0 ∧ countR (calAt n d) (dayOf (calAt n d) t) (dayOf (calAt n d) (endW n k d (wayW n nx fr o d t).2.2).1) ≤ p
  | [], _, t, ht => by cases ht
  | u :: l, h, t, ht => by
    unfold keepF at h
    split at h
    · rename_i g; exact absurd h g
    · rename_i g1
      split at h
      · rename_i g; exact absurd h g
      · rename_i g2
        split at h
        · exact absurd h (by decide)
        · rename_i g3
          simp only at h
          split at h
          · rename_i g; exact absurd h g
          · rename_i g4
            rcases List.mem_cons.1 ht with rfl | ht
            · exact ⟨by simpa using g1, by simpa using g2, by omega⟩
            · exact keepF_all l (by simpa using g4) t ht
theorem kept_at {n : Net} {fr till : Int} {nx : List NsC} {ds : List DaC} {k o d : Nat} {x : Int} (h : (writeTop n fr till nx ds).1 = 0) (hx : DsAt ds k o d x) (h0 : 0 ≤ x) :
    ∀ t ∈ cutsOf n k o fr till, (wayW n nx fr o d t).1 = 0 ∧ (endW n k d (wayW n nx fr o d t).2.2).2 = 0 ∧ countR (calAt n d) (dayOf (calAt n d) t) (dayOf (calAt n d) (endW n k d (wayW n nx fr o d t).2.2).1) ≤ x := by
  have h1 := writeTop_all h _ hx.mem
  unfold keepP at h1
  rw [if_neg (by show ¬ x = -1; omega)] at h1
  exact keepF_all _ h1
/-- The first cut-off from a time on is one of the plan. -/
theorem cut_in {n : Net} (hG : Good n) {k o : Nat} (hk : k < n.clss.length) {fr till t x : Int} (h1 : 1440 * fr ≤ t) (h2 : till ≤ fr + 12) (h : firstR (calAt n o) (clsAt n k).cut t = (x, 0)) (hx : x < 1440 * till) : x ∈ cutsOf n k o fr till := by
  have hc := hG.cls _ (List.mem_of_getElem? (clsAt_get hk))
  have h3 := firstR_in hc.1 hc.2.1 h
  unfold cutsOf
  rw [cuts_cut hc.1 hc.2.1 (M := t) (T := 1440 * till) (by omega) _ (1440 * fr) (Nat.le_refl _) h1 (by omega), cuts_eq _ hc.1 hc.2.1 (1440 * till) t, if_pos ⟨by rw [h], by rw [h]; exact hx⟩, h]
  exact List.mem_append_right _ (List.mem_cons_self ..)

/-! Ways from earlier times. -/
theorem Good.ready {n : Net} (hG : Good n) {o : Nat} (ho : o < n.offs.length) (t : Int) : t ≤ readyR (offAt n o) t ∧ readyR (offAt n o) t ≤ t + 960 := by
  have := hG.off _ (List.mem_of_getElem? (offAt_get ho))
  have := mul_small this.2.1 this.2.2.1 this.2.2.2.1 this.2.2.2.2
  unfold readyR
  omega
theorem departR_ok {c : Cal} {L : Lin} {t : Int} (h : (departR c L t).2 = 0) : tOk t = true ∧ firstR c L.at_ t = ((departR c L t).1, 0) := by
  unfold departR at h ⊢
  by_cases a : tOk t = true
  · rw [if_pos a] at h ⊢
    exact ⟨a, firstR_ok h⟩
  · rw [if_neg a] at h
    exact absurd h (by decide)
theorem tOk_iff {t : Int} : tOk t = true ↔ 0 ≤ t ∧ t ≤ 2000000 := by unfold tOk; simp
theorem wayR_early {n : Net} {nx : List NsC} (hG : Good n) (hF : Formed n nx) {d : Nat} (hd : d < n.offs.length) : ∀ (f o : Nat) (t u : Int), o < n.offs.length → 0 ≤ t → t ≤ u → (wayR n nx d f o u).1 = 0 → (wayR n nx d f o t).1 = 0 ∨ (wayR n nx d f o t).1 = 20 := by
  intro f
  induction f with
  | zero =>
    intro o t u ho h0 htu h
    by_cases hod : o = d
    · subst hod
      rw [wayR_at]
      exact .inl rfl
    · simp only [wayR, hod, if_false] at h
      split at h
      · exact absurd h (by decide)
      · split at h
        · exact absurd h (by decide)
        · rename_i h2
          exact absurd h h2
  | succ f ih =>
    intro o t u ho h0 htu h
    by_cases hod : o = d
    · subst hod
      rw [wayR_at]
      exact .inl rfl
    by_cases hl : nxAt nx o d = -1
    · rw [wayR_no _ _ _ _ _ _ hod hl] at h
      exact absurd h (by decide)
    obtain ⟨⟨p1, p2⟩, p3, p4, hl1, hl2⟩ := dest_lt hG hF ho hd hl
    have htr := hG.lin _ (List.mem_of_getElem? (linAt_get (n := n) (l := (nxAt nx o d).toNat) (by omega)))
    have r1 := hG.ready ho t
    have r2 := hG.ready ho u
    have r3 : readyR (offAt n o) t ≤ readyR (offAt n o) u := by unfold readyR; omega
    simp only [wayR, hod, hl, if_false] at h ⊢
    split at h
    case isFalse hh => exact absurd h hh
    case isTrue hh =>
    split at h
    case isFalse g => exact absurd h g
    case isTrue g =>
    have hu := departR_ok hh
    have ht : tOk (readyR (offAt n o) t) = true := tOk_iff.2 (by have := tOk_iff.1 hu.1; omega)
    by_cases kk : (departR (calAt n o) (linAt n (nxAt nx o d).toNat) (readyR (offAt n o) t)).2 = 0
    · have hdep := departR_mono p1 p2 r3 kk hh
      have hin := firstR_in p1 p2 (departR_ok kk).2
      rw [if_pos kk]
      rcases ih _ _ _ p3 (by omega) (Int.add_le_add_right hdep (linAt n (nxAt nx o d).toNat).travel) g with e | e
      · rw [if_pos e]
        exact .inl rfl
      · rw [if_neg (by rw [e]; decide)]
        exact .inr e
    · rw [if_neg kk]
      refine .inr ?_
      unfold departR at kk ⊢
      rw [if_pos ht] at kk ⊢
      rw [firstR_err kk]

/-! A way visits no office twice. -/
theorem WayOk.len_eq {n : Net} {nx : List NsC} {d : Nat} : ∀ (l l' : List St) (o : Nat) (t u : Int), WayOk n nx d o t l → WayOk n nx d o u l' → l.length = l'.length
  | [], _, _, _, _, h, _ => h.elim
  | _, [], _, _, _, _, h => h.elim
  | [_], [_], _, _, _, _, _ => rfl
  | [_], _ :: _ :: _, _, _, _, h, h' => absurd h.2 h'.2.1
  | _ :: _ :: _, [_], _, _, _, h, h' => absurd h'.2 h.2.1
  | s :: a :: l, s' :: b :: l', o, t, u, h, h' => by
    have := WayOk.len_eq (a :: l) (b :: l') _ _ _ h.2.2.2.2 h'.2.2.2.2
    simpa using this
theorem WayOk.seen {n : Net} {nx : List NsC} (hG : Good n) (hF : Formed n nx) {d : Nat} (hd : d < n.offs.length) : ∀ (l : List St) (o : Nat) (t : Int), o < n.offs.length → WayOk n nx d o t l → ∃ S : List Nat, S.length = l.length ∧ S.Nodup ∧ ∀ x ∈ S, x < n.offs.length ∧ ∃ t' l', WayOk n nx d x t' l' ∧ l'.length ≤ l.length
  | [], _, _, _, h => h.elim
  | [s], o, t, ho, h => ⟨[o], rfl, by simp, fun x hx => by rw [List.mem_singleton.1 hx]; exact ⟨ho, t, [s], h, Nat.le_refl _⟩⟩
  | s :: a :: l, o, t, ho, h => by
    obtain ⟨-, p3, -⟩ := dest_lt hG hF ho hd h.2.2.1
    obtain ⟨S, h1, h2, h3⟩ := WayOk.seen hG hF hd (a :: l) _ _ p3 h.2.2.2.2
    refine ⟨o :: S, by simp [h1], List.nodup_cons.2 ⟨fun hx => ?_, h2⟩, fun x hx => ?_⟩
    · obtain ⟨-, t', l', g1, g2⟩ := h3 o hx
      have := WayOk.len_eq _ _ _ _ _ h g1
      simp at this g2
      omega
    · rcases List.mem_cons.1 hx with rfl | hx
      · exact ⟨ho, t, _, h, Nat.le_refl _⟩
      · obtain ⟨g1, t', l', g2, g3⟩ := h3 x hx
        exact ⟨g1, t', l', g2, by simp at g3 ⊢; omega⟩
theorem nodup_le : ∀ (N : Nat) (S : List Nat), S.Nodup → (∀ x ∈ S, x < N) → S.length ≤ N
  | 0, [], _, _ => Nat.le_refl _
  | 0, x :: S, _, h => absurd (h x (List.mem_cons_self ..)) (by omega)
  | N + 1, S, hn, h => by
    have h1 := nodup_le N (S.erase N) (hn.erase N) (fun x hx => by
      have h2 := (hn.mem_erase_iff).1 hx
      have h3 := h x h2.2
      have h4 := h2.1
      omega)
    rw [List.length_erase] at h1
    split at h1 <;> omega
theorem WayOk.short {n : Net} {nx : List NsC} (hG : Good n) (hF : Formed n nx) {d o : Nat} (hd : d < n.offs.length) (ho : o < n.offs.length) {t : Int} {l : List St} (h : WayOk n nx d o t l) : l.length ≤ n.offs.length := by
  obtain ⟨S, h1, h2, h3⟩ := WayOk.seen hG hF hd l o t ho h
  rw [← h1]
  exact nodup_le _ S h2 (fun x hx => (h3 x hx).1)
theorem last_two (s a : St) (l : List St) : lastSt (s :: a :: l) = lastSt (a :: l) := by simp [lastSt, List.getLastD_eq_getLast?]
theorem WayOk.time {n : Net} {nx : List NsC} (hG : Good n) (hF : Formed n nx) {d : Nat} (hd : d < n.offs.length) : ∀ (l : List St) (o : Nat) (t : Int), o < n.offs.length → WayOk n nx d o t l → t ≤ (lastSt l).arrive ∧ (lastSt l).arrive + 96000 ≤ t + 96000 * l.length
  | [], _, _, _, h => h.elim
  | [s], o, t, ho, h => by
    have e : lastSt [s] = s := rfl
    rw [e, h.1]
    simp
  | s :: a :: l, o, t, ho, h => by
    obtain ⟨⟨p1, p2⟩, p3, -, hl1, hl2⟩ := dest_lt hG hF ho hd h.2.2.1
    have htr := hG.lin _ (List.mem_of_getElem? (linAt_get (n := n) (l := (nxAt nx o d).toNat) (by omega)))
    obtain ⟨h1, h2⟩ := WayOk.time hG hF hd (a :: l) _ _ p3 h.2.2.2.2
    have h3 := firstR_in p1 p2 (departR_ok h.2.2.2.1).2
    have h4 := hG.ready ho t
    have h5 : s.depart = (departR (calAt n o) (linAt n (nxAt nx o d).toNat) (readyR (offAt n o) t)).1 := by rw [h.1]
    rw [last_two]
    simp only [List.length_cons] at h2 ⊢
    omega

/-! Days of delivery. -/
theorem wdays_none {c : Cal} : ∀ (n : Nat) (d : Int), (∀ y, d ≤ y → y < d + n → workB c y = false) → wdays c n d = []
  | 0, _, _ => rfl
  | n + 1, d, h => by
    rw [wdays, h d (Int.le_refl _) (by omega), wdays_none n (d + 1) (fun y h1 h2 => h y (by omega) (by omega))]
    rfl
theorem addN_count {c : Cal} : ∀ (k : Nat) (b D : Int), addN c k b = (D, 0) → b ≤ D ∧ (wdays c (D - b).toNat (b + 1)).length = k
  | 0, b, D, h => by
    rw [addN_zero] at h
    cases h
    rw [show (b - b).toNat = 0 by omega]
    exact ⟨Int.le_refl _, rfl⟩
  | k + 1, b, D, h => by
    cases hn : nextW c 60 (b + 1) with
    | none => rw [addN_none hn] at h; exact absurd (Prod.mk.inj h).2 (by decide)
    | some x =>
      rw [addN_some hn] at h
      obtain ⟨h1, h2⟩ := addN_count k x D h
      obtain ⟨g1, -, g3, g4⟩ := nextW_some hn
      refine ⟨by omega, ?_⟩
      rw [show (D - b).toNat = ((x - b - 1).toNat + 1) + (D - x).toNat by omega, wdays_add, wdays_snoc, wdays_none _ _ (fun y h3 h4 => g4 y h3 (by omega)), show b + 1 + (((x - b - 1).toNat : Nat) : Int) = x by omega, g3, show b + 1 + ((((x - b - 1).toNat + 1 : Nat)) : Int) = x + 1 by omega]
      simp [h2]
/-- The working day of which few are counted comes no later than the last one of so many. -/
theorem day_le {c : Cal} {k : Nat} {b D E : Int} (h : addN c k b = (D, 0)) (hE : workB c E = true) (hs : E ≤ b + 2000) (hc : countR c b E ≤ k) : E ≤ D := by
  rcases Int.lt_or_le D E with hlt | hle
  · obtain ⟨h1, h2⟩ := addN_count k b D h
    unfold countR at hc
    rw [if_neg (by omega), show (E - b).toNat = (D - b).toNat + ((E - D - 1).toNat + 1) by omega, wdays_add, wdays_snoc, show b + 1 + (((D - b).toNat : Nat) : Int) + (((E - D - 1).toNat : Nat) : Int) = E by omega, hE] at hc
    simp [h2] at hc
    omega
  · exact hle
/-- What WarrantKept says. -/
theorem kept_way {n : Net} {fr till : Int} {nx : List NsC} {ds : List DaC} (hs : Sound n) (hF : Fine n fr till nx ds) (h6 : n.offs.length ≤ 6) (h12 : till ≤ fr + 12) {k o d : Nat} (hk : k < n.clss.length) (ho : o < n.offs.length) (hd : d < n.offs.length) {p t cut : Int} (hp : DsAt ds k o d p) (hp0 : 0 ≤ p)
    (hw : (writeTop n fr till nx ds).1 = 0) (ht : 1440 * fr ≤ t) (hc : firstR (calAt n o) (clsAt n k).cut t = (cut, 0)) (hct : cut < 1440 * till) :
    (wayR n nx d 19 o t).1 = 20 ∨ (wayR n nx d 19 o t).1 = 0 ∧ (0 ≤ (lastSt (wayR n nx d 19 o t).2).arrive ∧ (lastSt (wayR n nx d 19 o t).2).arrive ≤ 2000000) ∧
      ((deliveryR (calAt n d) (offAt n d) (clsAt n k) (lastSt (wayR n nx d 19 o t).2).arrive).2 = 20 ∨ (deliveryR (calAt n d) (offAt n d) (clsAt n k) (lastSt (wayR n nx d 19 o t).2).arrive).2 = 0 ∧ ∀ D, addN (calAt n d) p.toNat (dayOf (calAt n d) cut) = (D, 0) → (deliveryR (calAt n d) (offAt n d) (clsAt n k) (lastSt (wayR n nx d 19 o t).2).arrive).1 ≤ timeOf (calAt n d) D (clsAt n k).deliver) := by
  have hG := hs.1.good
  have hN := hF.next
  have hr := hF.rng
  have hcl := hG.cls _ (List.mem_of_getElem? (clsAt_get hk))
  have hci := firstR_in hcl.1 hcl.2.1 hc
  obtain ⟨w1, w2, w3⟩ := kept_at hw hp hp0 cut (cut_in hG hk ht h12 hc hct)
  have w1' : (wayR n nx d 19 o cut).1 = 0 := w1
  have hlast : (wayW n nx fr o d cut).2.2 = (lastSt (wayR n nx d 19 o cut).2).arrive := rfl
  rw [hlast] at w2 w3
  rcases wayR_early hG hN hd 19 o t cut ho (by omega) hci.1 w1' with e | e
  · refine .inr ⟨e, ?_⟩
    obtain ⟨k1, -⟩ := wayR_ok 19 o t e
    obtain ⟨k2, -⟩ := wayR_ok 19 o cut w1'
    have s1 := WayOk.short hG hN hd ho k1
    have s2 := WayOk.short hG hN hd ho k2
    have m1 := WayOk.time hG hN hd _ _ _ ho k1
    have m2 := WayOk.time hG hN hd _ _ _ ho k2
    have hle : (lastSt (wayR n nx d 19 o t).2).arrive ≤ (lastSt (wayR n nx d 19 o cut).2).arrive := by
      have hall := wayR_later (Quick.same n) hG hN hd 19 o t cut ho hci.1 e w1'
      have hlen := hall.len
      have hne : (wayR n nx d 19 o t).2 ≠ [] := fun h => by rw [h] at k1; exact k1
      have hpos : 0 < (wayR n nx d 19 o t).2.length := List.length_pos_iff.2 hne
      have e1 : (wayR n nx d 19 o t).2[(wayR n nx d 19 o t).2.length - 1]? = some (lastSt (wayR n nx d 19 o t).2) := by
        unfold lastSt
        rw [List.getLastD_eq_getLast?, List.getLast?_eq_getElem?, List.getElem?_eq_getElem (by omega)]
        rfl
      have e2 : (wayR n nx d 19 o cut).2[(wayR n nx d 19 o t).2.length - 1]? = some (lastSt (wayR n nx d 19 o cut).2) := by
        unfold lastSt
        rw [List.getLastD_eq_getLast?, List.getLast?_eq_getElem?, ← hlen, List.getElem?_eq_getElem (by omega)]
        rfl
      exact (hall.get _ _ _ e1 e2).2.2.1
    generalize lastSt (wayR n nx d 19 o t).2 = a at *
    generalize lastSt (wayR n nx d 19 o cut).2 = b at *
    have hcut2 : cut ≤ 864000 := by omega
    refine ⟨⟨by omega, by omega⟩, ?_⟩
    have r1 := hG.ready hd a.arrive
    have r2 := hG.ready hd b.arrive
    have r3 : readyR (offAt n d) a.arrive ≤ readyR (offAt n d) b.arrive := by unfold readyR; omega
    unfold endW at w2 w3
    unfold deliveryR
    by_cases hh : (firstR (calAt n d) (clsAt n k).deliver (readyR (offAt n d) a.arrive)).2 = 0
    · refine .inr ⟨hh, fun D hD => ?_⟩
      have hmono := firstR_mono hcl.2.2.1 hcl.2.2.2 r3 (firstR_ok hh) (firstR_ok w2)
      obtain ⟨E, hE, hwE, -⟩ := firstR_day hcl.2.2.1 hcl.2.2.2 (firstR_ok w2)
      have hin := firstR_in hcl.2.2.1 hcl.2.2.2 (firstR_ok w2)
      rw [hE] at w3 hmono hin
      have hday : dayOf (calAt n d) (timeOf (calAt n d) E (clsAt n k).deliver) = E := by unfold dayOf timeOf; omega
      rw [hday] at w3
      have hED : E ≤ D := day_le hD hwE (by
        unfold timeOf at hin
        unfold dayOf
        omega) (by omega)
      have : timeOf (calAt n d) E (clsAt n k).deliver ≤ timeOf (calAt n d) D (clsAt n k).deliver := by unfold timeOf; omega
      omega
    · exact .inl (by rw [firstR_err hh])
  · exact .inl e
end Go.Proofs.YtjpabeoflhkfkaaGreatDoor
