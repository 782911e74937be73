/-
  What promise.Table leaves is a table of promises for Write; Write on it succeeds, or there are too many numbers: plain Lean.
-/
import Derived.Test.YtjpabeoflhkfkaaGreatDoorWarRef
import Derived.Test.YtjpabeoflhkfkaaGreatDoorPk
namespace Go.Proofs.YtjpabeoflhkfkaaGreatDoor
open Go.RowKit

theorem list_choose {α : Type} {P : Nat → α → Prop} : ∀ (m : Nat), (∀ k < m, ∃ x, P k x) → ∃ l : List α, l.length = m ∧ ∀ k x, l[k]? = some x → P k x
  | 0, _ => ⟨[], rfl, fun k x h => by simp at h⟩
  | m + 1, h => by
    obtain ⟨l, h1, h2⟩ := list_choose m (fun k hk => h k (by omega))
    obtain ⟨x, hx⟩ := h m (by omega)
    refine ⟨l ++ [x], by simp [h1], fun k y hy => ?_⟩
    by_cases hk : k < m
    · rw [List.getElem?_append_left (by omega)] at hy
      exact h2 k y hy
    · by_cases he : k = m
      · subst he
        rw [List.getElem?_append_right (by omega), h1, Nat.sub_self] at hy
        obtain rfl : x = y := by simpa using hy
        exact hx
      · rw [List.getElem?_eq_none (by simp; omega)] at hy
        cases hy
/-- A table's numbers. -/
def TabV (n : Net) (val : Nat → Nat → Nat → Int) (ds : List DaC) : Prop :=
  ds.length = n.clss.length ∧ ∀ k x, ds[k]? = some x → x.rows.length = n.offs.length ∧ ∀ o r, x.rows[o]? = some r → r.ns.length = n.offs.length ∧ ∀ d y, r.ns[d]? = some y → y = val k o d
theorem map_of_get {α β : Type} {f : α → β} {l : List α} {xs : List β} (h1 : l.length = xs.length) (h2 : ∀ (k : Nat) (x : α), l[k]? = some x → xs[k]? = some (f x)) : xs = l.map f := by
  apply List.ext_getElem?
  intro i
  by_cases hi : i < l.length
  · rw [h2 i l[i] (List.getElem?_eq_getElem hi), List.getElem?_map, List.getElem?_eq_getElem hi]
    rfl
  · rw [List.getElem?_eq_none (by omega), List.getElem?_eq_none (by simp; omega)]
/-- Another world that has the blocks from a number on as they are. -/
def KeepB (B : Nat) (w W : World) : Prop := w.heap.size ≤ W.heap.size ∧ ∀ b, B ≤ b → b < w.heap.size → W.heap[b]? = w.heap[b]?
theorem KeepB.refl (B : Nat) (w : World) : KeepB B w w := ⟨Nat.le_refl _, fun _ _ _ => rfl⟩
theorem KeepB.mono {B B' : Nat} {w W : World} (h : KeepB B w W) (hb : B ≤ B') : KeepB B' w W := ⟨h.1, fun b h1 h2 => h.2 b (by omega) h2⟩
theorem KeepB.set {B b : Nat} (w : World) (hb : b < B) (j : Nat) (v : Value) : KeepB B w (w.setCell ⟨b, j, none⟩ v) := ⟨by simp, fun c h1 _ => Below.heap_setCell _ _ _ _ (by show c ≠ b; omega)⟩
theorem KeepB.rd {B g : Nat} {w W : World} {xs : List Value} (h : KeepB B w W) (hg : B ≤ g) (hl : g < w.heap.size) (hr : Rd w (some ⟨g, 0, none⟩) xs) : Rd W (some ⟨g, 0, none⟩) xs := hr.same h.1 (fun a ha _ => by cases ha; exact h.2 g hg hl)
/-- A row of numbers that is read is a row of a table. -/
theorem prr_row {m : Nat} {val : Nat → Nat → Int} {i : Nat} {v : Value} {B : Nat} {w : World} (h : PrR m val i v B w) (hv : ∀ j < m, I64 (val i j)) (hm : m ≤ maxLen) :
    ∃ r : NsC, v = slI r ∧ r.ns.length = m ∧ (∀ d y, r.ns[d]? = some y → y = val i d) ∧ ∀ W, KeepB B w W → (Rd W r.A (r.ns.map iV) ∧ (∀ n ∈ r.ns, I64 n) ∧ r.ns.length ≤ maxLen) := by
  obtain ⟨g, xs, rfl, hg, hgl, hr, hl, hx⟩ := h
  have e : xs = ((List.range m).map (val i)).map iV := by
    apply List.ext_getElem?
    intro j
    by_cases hj : j < m
    · rw [hx j hj]
      simp [List.getElem?_map, List.getElem?_range hj]
    · rw [List.getElem?_eq_none (by omega), List.getElem?_eq_none (by simp; omega)]
  refine ⟨⟨(List.range m).map (val i), some ⟨g, 0, none⟩, m⟩, by simp [slI], by simp, fun d y hd => ?_, fun W hW => ⟨by rw [← e]; exact hW.rd hg hgl hr, fun n hn => ?_, by simpa using hm⟩⟩
  · have hd' : d < m := by
      have := (List.getElem?_eq_some_iff.1 hd).1
      simpa using this
    simp [List.getElem?_map, List.getElem?_range hd'] at hd
    exact hd.symm
  · obtain ⟨j, hj, rfl⟩ := List.mem_map.1 hn
    exact hv j (List.mem_range.1 hj)
theorem prt_tab {m : Nat} {val : Nat → Nat → Nat → Int} {i : Nat} {v : Value} {B : Nat} {w : World} (h : PrT m val i v B w) (hv : ∀ o < m, ∀ j < m, I64 (val i o j)) (hm : m ≤ maxLen) :
    ∃ x : DaC, v = slD x ∧ x.rows.length = m ∧ (∀ o r, x.rows[o]? = some r → r.ns.length = m ∧ ∀ d y, r.ns[d]? = some y → y = val i o d) ∧ ∀ W, KeepB B w W → Tab W x.A x.rows := by
  obtain ⟨g, xs, rfl, hg, hgl, hr, hl, hx⟩ := h
  obtain ⟨l, h1, h2⟩ := list_choose (P := fun o (r : NsC) => xs[o]? = some (slI r) ∧ r.ns.length = m ∧ (∀ d y, r.ns[d]? = some y → y = val i o d) ∧ ∀ W, KeepB (g + 1) w W → (Rd W r.A (r.ns.map iV) ∧ (∀ n ∈ r.ns, I64 n) ∧ r.ns.length ≤ maxLen)) m (fun o ho => by
    obtain ⟨u, hu, hp⟩ := hx o ho
    obtain ⟨r, rfl, h3, h4, h5⟩ := prr_row hp (hv o ho) hm
    exact ⟨r, hu, h3, h4, h5⟩)
  have e : xs = l.map slI := map_of_get (by omega) (fun k x hk => (h2 k x hk).1)
  refine ⟨⟨l, some ⟨g, 0, none⟩, m⟩, by simp [slD, h1], h1, fun o r ho => ⟨(h2 o r ho).2.1, (h2 o r ho).2.2.1⟩, fun W hW => ⟨by rw [← e]; exact hW.rd hg hgl hr, fun r hr => ?_⟩⟩
  obtain ⟨o, ho⟩ := mem_get hr
  exact (h2 o r ho).2.2.2 W (hW.mono (by omega))
theorem tableR_dtab {w w' : World} {n : Net} {nx : List NsC} {fr till : Int} {e : Ending} (h : TableR w n nx fr till e w') (hv : ∀ k < n.clss.length, ∀ o < n.offs.length, ∀ d < n.offs.length, I64 (mostR n nx k o d fr till)) (hm : n.offs.length ≤ 1000000) :
    ∃ g c ds, e = .returned (.slice (some ⟨g, 0, none⟩) (List.length ds) c) ∧ (∀ W, KeepB w.heap.size w' W → DTab W (some ⟨g, 0, none⟩) ds) ∧ TabV n (fun k o d => mostR n nx k o d fr till) ds ∧ Below w.heap.size w w' ∧ w.heap.size ≤ g := by
  obtain ⟨g, xs, rfl, hg, hgl, hr, hl, hx, hb⟩ := h
  obtain ⟨l, h1, h2⟩ := list_choose (P := fun k (x : DaC) => xs[k]? = some (slD x) ∧ x.rows.length = n.offs.length ∧ (∀ o r, x.rows[o]? = some r → r.ns.length = n.offs.length ∧ ∀ d y, r.ns[d]? = some y → y = mostR n nx k o d fr till) ∧ ∀ W, KeepB (g + 1) w' W → Tab W x.A x.rows) n.clss.length (fun k hk => by
    obtain ⟨v, hv1, hp⟩ := hx k hk
    obtain ⟨x, rfl, h3, h4, h5⟩ := prt_tab hp (fun o ho d hd => hv k hk o ho d hd) (by unfold maxLen; omega)
    exact ⟨x, hv1, h3, h4, h5⟩)
  have e : xs = l.map slD := map_of_get (by omega) (fun k x hk => (h2 k x hk).1)
  refine ⟨g, n.clss.length, l, by rw [h1], fun W hW => ⟨by rw [← e]; exact hW.rd hg hgl hr, fun r hr => ?_⟩, ⟨h1, fun k x hk => (h2 k x hk).2.imp id And.left⟩, hb, hg⟩
  obtain ⟨k, hk⟩ := mem_get hr
  exact ⟨(h2 k r hk).2.2.2 W (hW.mono (by omega)), by rw [(h2 k r hk).2.1]; exact hm⟩

/-! What the table's numbers are. -/
theorem countR_le (c : Cal) (a b : Int) : countR c a b ≤ 2000 := by
  unfold countR
  split
  · omega
  · have := wdays_len c (b - a).toNat (a + 1)
    omega
theorem needR_le {n : Net} {nx : List NsC} {k o d : Nat} {t x : Int} (h : needR n nx k o d t = some x) : x ≤ 2000 := by
  unfold needR at h
  split at h
  · cases h
  · split at h
    · cases h
    · simp only at h
      split at h
      · cases h
      · cases h; exact countR_le _ _ _
theorem mostF_in (n : Net) (nx : List NsC) (k o d : Nat) : ∀ (l : List Int) (g : Int), -1 ≤ g → g ≤ 2000 → -1 ≤ mostF n nx k o d l g ∧ mostF n nx k o d l g ≤ 2000
  | [], g, h1, h2 => ⟨h1, h2⟩
  | t :: l, g, h1, h2 => by
    unfold mostF
    cases hn : needR n nx k o d t with
    | none => exact ⟨show (-1 : Int) ≤ -1 by omega, show (-1 : Int) ≤ 2000 by omega⟩
    | some x =>
      have h3 := needR_le hn
      exact mostF_in n nx k o d l (max g x) (by omega) (by omega)
theorem mostR_in (n : Net) (nx : List NsC) (k o d : Nat) (fr till : Int) : -1 ≤ mostR n nx k o d fr till ∧ mostR n nx k o d fr till ≤ 2000 := mostF_in n nx k o d _ (-1) (by omega) (by omega)
theorem mostF_need (n : Net) (nx : List NsC) (k o d : Nat) : ∀ (l : List Int) (g : Int), mostF n nx k o d l g ≠ -1 → g ≤ mostF n nx k o d l g ∧ ∀ t ∈ l, ∃ x, needR n nx k o d t = some x ∧ x ≤ mostF n nx k o d l g
  | [], g, _ => ⟨Int.le_refl _, fun t ht => by cases ht⟩
  | t :: l, g, h => by
    unfold mostF at h ⊢
    cases hn : needR n nx k o d t with
    | none => rw [hn] at h; exact absurd rfl h
    | some x =>
      rw [hn] at h
      obtain ⟨h1, h2⟩ := mostF_need n nx k o d l (max g x) h
      refine ⟨by show g ≤ mostF n nx k o d l (max g x); omega, fun u hu => ?_⟩
      rcases List.mem_cons.1 hu with rfl | hu
      · exact ⟨x, hn, by show x ≤ mostF n nx k o d l (max g x); omega⟩
      · exact h2 u hu
/-- What a cut-off needs: the way, the delivery, and the days. -/
theorem needR_some {n : Net} {nx : List NsC} {k o d : Nat} {fr t x : Int} (h : needR n nx k o d t = some x) :
    (wayW n nx fr o d t).1 = 0 ∧ (endW n k d (wayW n nx fr o d t).2.2).2 = 0 ∧ countR (calAt n d) (dayOf (calAt n d) t) (dayOf (calAt n d) (endW n k d (wayW n nx fr o d t).2.2).1) = x := by
  unfold needR at h
  split at h
  · cases h
  · rename_i h1
    split at h
    · cases h
    · rename_i h2
      simp only at h
      split at h
      · cases h
      · cases h
        exact ⟨by unfold wayW; simpa using h1, by unfold wayW endW; simpa [deliveryR] using h2, rfl⟩
theorem TabV.pr {n : Net} {val : Nat → Nat → Nat → Int} {ds : List DaC} (h : TabV n val ds) {p : Pr} (hp : p ∈ tabP 0 ds) : p.pr = val p.k p.o p.d := by
  obtain ⟨-, x, r, h1, h2, h3⟩ := tabP_mem 0 ds hp
  exact ((h.2 p.k x (by simpa using h1)).2 p.o r h2).2 p.d p.pr h3
/-- The numbers of a certificate are few and small. -/
theorem writeTop_bd {n : Net} {fr till : Int} {nx : List NsC} {ds : List DaC} (hF : Fine n fr till nx ds) (hG : Good n) {L : List Int} (h : writeTop n fr till nx ds = (0, L)) : L.length ≤ 40000 ∧ ∀ x ∈ L, -70000 ≤ x ∧ x ≤ 70000 := by
  unfold writeTop at h
  split at h
  · unfold writeR at h
    split at h
    · rename_i g
      exact absurd (congrArg Prod.fst h) g
    · rename_i g
      split at h
      · cases congrArg Prod.fst h
      · rename_i g2
        obtain rfl : _ = L := congrArg Prod.snd h
        have hd := hF.done hG (done := tabP 0 ds) (rest := []) ⟨by simp, by simpa [allR] using g⟩
        refine ⟨by dsimp only; omega, fun x hx => ?_⟩
        rcases List.mem_append.1 hx with hx | hx
        · exact headR_mem hF hG x hx
        · have := hd.2 x hx
          omega
  · cases congrArg Prod.fst h
end Go.Proofs.YtjpabeoflhkfkaaGreatDoor
