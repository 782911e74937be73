/-
  Weaker promises, in plain Lean: the same days of departure; one promise less than the table's, no certificate.
-/
import Derived.Test.YtjpabeoflhkfkaaGreatDoorWarKept
namespace Go.Proofs.YtjpabeoflhkfkaaGreatDoor
open Go.RowKit

/-- A table's numbers without its addresses. -/
def numsD (ds : List DaC) : List (List (List Int)) := ds.map fun x => x.rows.map (·.ns)
def Pr.up (f : Int → Int) (p : Pr) : Pr := ⟨p.k, p.o, p.d, f p.pr⟩
theorem colsP_map (f : Int → Int) (k o : Nat) : ∀ (d : Nat) (l : List Int), colsP k o d (l.map f) = (colsP k o d l).map (Pr.up f)
  | _, [] => rfl
  | d, x :: l => by simp only [List.map_cons, colsP, colsP_map f k o (d + 1) l]; rfl
theorem rowsP_map (f : Int → Int) (k : Nat) : ∀ (o : Nat) (l m : List NsC), m.map (·.ns) = (l.map (·.ns)).map (·.map f) → rowsP k o m = (rowsP k o l).map (Pr.up f)
  | _, [], [], _ => rfl
  | _, [], _ :: _, h => by simp at h
  | _, _ :: _, [], h => by simp at h
  | o, x :: l, y :: m, h => by
    simp only [List.map_cons, List.cons.injEq] at h
    simp only [rowsP, h.1, colsP_map, rowsP_map f k (o + 1) l m h.2, List.map_append]
theorem tabP_map (f : Int → Int) : ∀ (k : Nat) (l m : List DaC), numsD m = (numsD l).map (·.map (·.map f)) → tabP k m = (tabP k l).map (Pr.up f)
  | _, [], [], _ => rfl
  | _, [], _ :: _, h => by simp [numsD] at h
  | _, _ :: _, [], h => by simp [numsD] at h
  | k, x :: l, y :: m, h => by
    simp only [numsD, List.map_cons, List.cons.injEq] at h
    simp only [tabP, rowsP_map f k 0 x.rows y.rows h.1, tabP_map f (k + 1) l m h.2, List.map_append]
theorem nextR1_map (f : Int → Int) : ∀ (l m : List NsC), m.map (·.ns) = (l.map (·.ns)).map (·.map f) → (nextR1 m).length = (nextR1 l).length
  | [], [], _ => rfl
  | [], _ :: _, h => by simp at h
  | _ :: _, [], h => by simp at h
  | x :: l, y :: m, h => by
    simp only [List.map_cons, List.cons.injEq] at h
    have ih := nextR1_map f l m h.2
    unfold nextR1 at ih ⊢
    simp only [List.flatMap_cons, List.length_append, List.length_map, h.1, ih]
theorem head_map (f : Int → Int) : ∀ (l m : List DaC), numsD m = (numsD l).map (·.map (·.map f)) → (m.flatMap fun x => nextR1 x.rows).length = (l.flatMap fun x => nextR1 x.rows).length
  | [], [], _ => rfl
  | [], _ :: _, h => by simp [numsD] at h
  | _ :: _, [], h => by simp [numsD] at h
  | x :: l, y :: m, h => by
    simp only [numsD, List.map_cons, List.cons.injEq] at h
    simp only [List.flatMap_cons, List.length_append, nextR1_map f x.rows y.rows h.1, head_map f l m h.2]
theorem headR_map {n : Net} {fr till : Int} {nx : List NsC} {ds es : List DaC} {f : Int → Int} (h : numsD es = (numsD ds).map (·.map (·.map f))) : (headR n fr till nx es).length = (headR n fr till nx ds).length := by
  unfold headR
  simp only [List.length_append, head_map f ds es h]
theorem allF_map {α β : Type} (f : α → Int × List Int) (g : β → Int × List Int) (u : α → β) : ∀ l : List α, (∀ p ∈ l, g (u p) = f p) → allF g (l.map u) = allF f l
  | [], _ => rfl
  | p :: l, h => by
    simp only [List.map_cons, allF, h p (List.mem_cons_self ..), allF_map f g u l (fun q hq => h q (List.mem_cons_of_mem _ hq))]
theorem keepF_more {n : Net} {nx : List NsC} {fr : Int} {k o d : Nat} {p q : Int} (hpq : p ≤ q) : ∀ (l : List Int), (keepF n nx fr k o d p l).1 = 0 → keepF n nx fr k o d q l = keepF n nx fr k o d p l
  | [], _ => rfl
  | t :: l, h => by
    unfold keepF at h
    split at h
    · rename_i g; exact absurd h g
    · rename_i g1
      split at h
      · rename_i g; exact absurd h g
      · rename_i g2
        split at h
        · exact absurd h (by decide)
        · rename_i g3
          simp only at h
          split at h
          · rename_i g; exact absurd h g
          · rename_i g4
            have ih := keepF_more hpq l (by simpa using g4)
            rw [keepF, keepF, if_neg g1, if_neg g2, if_neg g3, if_neg g1, if_neg g2, if_neg (by omega), ih]
/-- A number other than -1 made greater. -/
def rz (by_ : Int) (x : Int) : Int := if x < 0 then -1 else x + by_
theorem get_map3 {f : Int → Int} {ds es : List DaC} (h : numsD es = (numsD ds).map (·.map (·.map f))) {k : Nat} {y : DaC} (hy : es[k]? = some y) : ∃ x, ds[k]? = some x ∧ y.rows.map (·.ns) = (x.rows.map (·.ns)).map (·.map f) := by
  have h1 : (numsD es)[k]? = some (y.rows.map (·.ns)) := by unfold numsD; rw [List.getElem?_map, hy]; rfl
  rw [h, List.getElem?_map] at h1
  obtain ⟨z, hz, h2⟩ := Option.map_eq_some_iff.1 h1
  unfold numsD at hz
  rw [List.getElem?_map] at hz
  obtain ⟨x, hx, rfl⟩ := Option.map_eq_some_iff.1 hz
  exact ⟨x, hx, h2.symm⟩
theorem fine_raised {n : Net} {fr till by_ : Int} {nx : List NsC} {ds es : List DaC} (h : Fine n fr till nx ds) (he : numsD es = (numsD ds).map (·.map (·.map (rz by_)))) (h0 : 0 ≤ by_) (h1 : ∀ x ∈ ds, ∀ r ∈ x.rows, ∀ y ∈ r.ns, y + by_ ≤ 65518) : Fine n fr till nx es := by
  refine ⟨h.rng, h.next, h.nextL, ?_, fun y hy => ?_⟩
  · have := congrArg List.length he
    simp [numsD] at this
    rw [this]
    exact h.dsL
  · obtain ⟨k, hk⟩ := mem_get hy
    obtain ⟨x, hx, e⟩ := get_map3 he hk
    obtain ⟨hs, hv⟩ := h.days x (List.mem_of_getElem? hx)
    have hl := congrArg List.length e
    simp at hl
    refine ⟨⟨by rw [hl]; exact hs.1, fun r hr => ?_⟩, fun r hr z hz => ?_⟩
    all_goals
      obtain ⟨o, ho⟩ := mem_get hr
      have h2 : (y.rows.map (·.ns))[o]? = some r.ns := by rw [List.getElem?_map, ho]; rfl
      rw [e, List.getElem?_map, List.getElem?_map] at h2
      obtain ⟨a, ha, h3⟩ := Option.map_eq_some_iff.1 h2
      obtain ⟨r0, hr0, rfl⟩ := Option.map_eq_some_iff.1 ha
    · rw [← h3, List.length_map]
      exact hs.2 r0 (List.mem_of_getElem? hr0)
    · rw [← h3] at hz
      obtain ⟨v, hv2, rfl⟩ := List.mem_map.1 hz
      have h4 := hv r0 (List.mem_of_getElem? hr0) v hv2
      have h5 := h1 x (List.mem_of_getElem? hx) r0 (List.mem_of_getElem? hr0) v hv2
      unfold rz
      split <;> omega
/-- With weaker promises Write answers the same days of departure. -/
theorem writeTop_raised {n : Net} {fr till by_ : Int} {nx : List NsC} {ds es : List DaC} (hs : Sound n) (h : Fine n fr till nx ds) (he : numsD es = (numsD ds).map (·.map (·.map (rz by_)))) (h0 : 0 ≤ by_) (h1 : ∀ x ∈ ds, ∀ r ∈ x.rows, ∀ y ∈ r.ns, y + by_ ≤ 65518) (hw : (writeTop n fr till nx ds).1 = 0) :
    ∃ L, writeTop n fr till nx ds = (0, headR n fr till nx ds ++ L) ∧ writeTop n fr till nx es = (0, headR n fr till nx es ++ L) ∧ (headR n fr till nx es).length = (headR n fr till nx ds).length := by
  have hall := writeTop_all hw
  have hah : ∀ p ∈ tabP 0 ds, keepP n nx fr till (p.up (rz by_)) = keepP n nx fr till p := fun p hp => by
    have h2 := hall p hp
    unfold keepP Pr.up at *
    obtain ⟨-, x, r, e1, e2, e3⟩ := tabP_mem 0 ds hp
    have h3 := (h.days x (List.mem_of_getElem? e1)).2 r (List.mem_of_getElem? e2) _ (List.mem_of_getElem? e3)
    by_cases hp1 : p.pr = -1
    · have : rz by_ p.pr = -1 := by unfold rz; rw [if_pos (by omega)]
      rw [if_pos this, if_pos hp1]
    · have : rz by_ p.pr = p.pr + by_ := by unfold rz; rw [if_neg (by omega)]
      rw [if_neg hp1] at h2
      rw [if_neg (show ¬ rz by_ p.pr = -1 by omega), if_neg hp1]
      unfold keepR at h2 ⊢
      exact keepF_more (show p.pr ≤ rz by_ p.pr by omega) _ h2
  have hl := headR_map (n := n) (fr := fr) (till := till) (nx := nx) he
  have hae : allR n nx fr till es = allR n nx fr till ds := by
    unfold allR
    rw [tabP_map (rz by_) 0 ds es he]
    exact allF_map _ _ _ _ hah
  refine ⟨(allR n nx fr till ds).2, ?_, ?_, hl⟩
  · unfold writeTop at hw ⊢
    rw [if_pos ⟨hs, formedB_iff.2 h⟩] at hw ⊢
    unfold writeR at hw ⊢
    split at hw
    · rename_i g; exact absurd hw g
    · rename_i g
      rw [if_neg g]
      split at hw
      · exact absurd hw (by decide)
      · rename_i g2
        rw [if_neg g2]
  · unfold writeTop at hw ⊢
    rw [if_pos ⟨hs, formedB_iff.2 h⟩] at hw
    rw [if_pos ⟨hs, formedB_iff.2 (fine_raised h he h0 h1)⟩]
    unfold writeR at hw ⊢
    rw [hae]
    split at hw
    · rename_i g; exact absurd hw g
    · rename_i g
      rw [if_neg g]
      split at hw
      · exact absurd hw (by decide)
      · rename_i g2
        rw [if_neg (by rw [List.length_append, hl, ← List.length_append]; exact g2)]

/-! One promise less than the table's. -/
theorem mostF_max {n : Net} {nx : List NsC} {k o d : Nat} : ∀ (l : List Int) (g : Int), -1 ≤ g → g < mostF n nx k o d l g → ∃ t ∈ l, needR n nx k o d t = some (mostF n nx k o d l g)
  | [], g, _, h => absurd h (by unfold mostF; omega)
  | t :: l, g, h0, h => by
    unfold mostF at h ⊢
    cases hn : needR n nx k o d t with
    | none =>
      rw [hn] at h
      have h' : g < -1 := h
      omega
    | some x =>
      rw [hn] at h
      have h' : g < mostF n nx k o d l (max g x) := h
      show ∃ u ∈ t :: l, needR n nx k o d u = some (mostF n nx k o d l (max g x))
      by_cases h3 : max g x < mostF n nx k o d l (max g x)
      · obtain ⟨u, hu, e⟩ := mostF_max l (max g x) (by omega) h3
        exact ⟨u, List.mem_cons_of_mem _ hu, e⟩
      · have h4 := (mostF_need n nx k o d l (max g x) (by omega)).1
        refine ⟨t, List.mem_cons_self .., ?_⟩
        rw [hn]
        congr 1
        omega
theorem keepF_less {n : Net} {nx : List NsC} {fr : Int} {k o d : Nat} {q : Int} : ∀ (l : List Int), (∀ t ∈ l, (wayW n nx fr o d t).1 = 0 ∧ (endW n k d (wayW n nx fr o d t).2.2).2 = 0) → (∃ t ∈ l, q < countR (calAt n d) (dayOf (calAt n d) t) (dayOf (calAt n d) (endW n k d (wayW n nx fr o d t).2.2).1)) → keepF n nx fr k o d q l = (190, [])
  | [], _, h => by obtain ⟨t, ht, -⟩ := h; cases ht
  | t :: l, h1, h2 => by
    obtain ⟨a1, a2⟩ := h1 t (List.mem_cons_self ..)
    rw [keepF, if_neg (by rw [a1]; simp), if_neg (by rw [a2]; simp)]
    by_cases hq : q < countR (calAt n d) (dayOf (calAt n d) t) (dayOf (calAt n d) (endW n k d (wayW n nx fr o d t).2.2).1)
    · rw [if_pos hq]
    · rw [if_neg hq]
      obtain ⟨u, hu, hu2⟩ := h2
      have ih := keepF_less (fr := fr) (q := q) l (fun v hv => h1 v (List.mem_cons_of_mem _ hv)) (by
        rcases List.mem_cons.1 hu with rfl | hu
        · exact absurd hu2 hq
        · exact ⟨u, hu, hu2⟩)
      simp only [ih]
      simp
theorem allF_err {α : Type} (f : α → Int × List Int) {e : Int} (he : e ≠ 0) : ∀ l : List α, (∀ p ∈ l, (f p).1 = 0 ∨ (f p).1 = e) → (∃ p ∈ l, (f p).1 = e) → (allF f l).1 = e
  | [], _, h => by obtain ⟨p, hp, -⟩ := h; cases hp
  | p :: l, h1, h2 => by
    rcases h1 p (List.mem_cons_self ..) with g | g
    · obtain ⟨q, hq, hq2⟩ := h2
      have ih := allF_err f he l (fun r hr => h1 r (List.mem_cons_of_mem _ hr)) (by
        rcases List.mem_cons.1 hq with rfl | hq
        · rw [g] at hq2; exact absurd hq2.symm he
        · exact ⟨q, hq, hq2⟩)
      simp only [allF]
      rw [if_neg (by rw [g]; simp), if_pos (by rw [ih]; exact he)]
      exact ih
    · simp only [allF]
      rw [if_pos (by rw [g]; exact he)]
      exact g
/-- One place of a table has another number. -/
structure SetAt (es fs : List DaC) (k o d : Nat) (v : Int) : Prop where
  at_ : DsAt fs k o d v
  old : ∀ k' o' d' y, DsAt fs k' o' d' y → (k' = k ∧ o' = o ∧ d' = d ∧ y = v) ∨ DsAt es k' o' d' y
theorem raised_at {f : Int → Int} {ds es : List DaC} (he : numsD es = (numsD ds).map (·.map (·.map f))) {k o d : Nat} {y : Int} (h : DsAt es k o d y) : ∃ x, DsAt ds k o d x ∧ y = f x := by
  obtain ⟨z, r, h1, h2, h3⟩ := h
  obtain ⟨x, hx, e⟩ := get_map3 he h1
  have h4 : (z.rows.map (·.ns))[o]? = some r.ns := by rw [List.getElem?_map, h2]; rfl
  rw [e, List.getElem?_map, List.getElem?_map] at h4
  obtain ⟨a, ha, h5⟩ := Option.map_eq_some_iff.1 h4
  obtain ⟨r0, hr0, rfl⟩ := Option.map_eq_some_iff.1 ha
  rw [← h5, List.getElem?_map] at h3
  obtain ⟨v, hv, rfl⟩ := Option.map_eq_some_iff.1 h3
  exact ⟨v, ⟨x, r0, hx, hr0, hv⟩, rfl⟩
theorem writeTop_less {n : Net} {fr till : Int} {nx : List NsC} {ds es fs : List DaC} (hs : Sound n) (h : Fine n fr till nx ds) (he : numsD es = (numsD ds).map (·.map (·.map (rz 0)))) (hw : (writeTop n fr till nx ds).1 = 0)
    {k o d : Nat} {p : Int} (hp : DsAt ds k o d p) (hp0 : 0 ≤ p) (hm : 0 < mostR n nx k o d fr till) (hset : SetAt es fs k o d (mostR n nx k o d fr till - 1)) (hf : Fine n fr till nx fs) : writeTop n fr till nx fs = (190, []) := by
  have hbad : keepP n nx fr till ⟨k, o, d, mostR n nx k o d fr till - 1⟩ = (190, []) := by
    unfold keepP
    rw [if_neg (by show ¬ mostR n nx k o d fr till - 1 = -1; omega)]
    have hk := kept_at hw hp hp0
    obtain ⟨t, ht, hn⟩ := mostF_max (n := n) (nx := nx) (k := k) (o := o) (d := d) (cutsOf n k o fr till) (-1) (by omega) (by unfold mostR at hm; unfold cutsOf; omega)
    refine keepF_less _ (fun u hu => ⟨(hk u hu).1, (hk u hu).2.1⟩) ⟨t, ht, ?_⟩
    obtain ⟨-, -, h3⟩ := needR_some (fr := fr) hn
    rw [h3]
    show mostR n nx k o d fr till - 1 < mostR n nx k o d fr till
    omega
  have hall := writeTop_all hw
  have h1 : (allR n nx fr till fs).1 = 190 := by
    refine allF_err _ (by decide) _ (fun q hq => ?_) ⟨_, hset.at_.mem, by rw [hbad]⟩
    obtain ⟨-, x, r, e1, e2, e3⟩ := tabP_mem 0 fs hq
    rcases hset.old q.k q.o q.d q.pr ⟨x, r, by simpa using e1, e2, e3⟩ with ⟨g1, g2, g3, g4⟩ | hold
    · have : q = ⟨k, o, d, mostR n nx k o d fr till - 1⟩ := by cases q; simp at g1 g2 g3 g4; subst g1; subst g2; subst g3; subst g4; rfl
      rw [this, hbad]
      exact .inr rfl
    · obtain ⟨y, hy, e⟩ := raised_at he hold
      have h5 := hall _ hy.mem
      obtain ⟨z, r2, z1, z2, z3⟩ := hy
      have h6 := (h.days z (List.mem_of_getElem? z1)).2 r2 (List.mem_of_getElem? z2) y (List.mem_of_getElem? z3)
      have h7 : q.pr = y := by rw [e]; unfold rz; split <;> omega
      have : q = ⟨q.k, q.o, q.d, y⟩ := by rw [← h7]
      rw [this]
      exact .inl h5
  unfold writeTop
  rw [if_pos ⟨hs, formedB_iff.2 hf⟩]
  unfold writeR
  rw [if_pos (by rw [h1]; decide), h1]
end Go.Proofs.YtjpabeoflhkfkaaGreatDoor
