/-
  Laws of histories, in plain Lean: losses, cancellations, a further hold, items alone. Without exchanges an item has the track that it has with its own deeds alone, in plain Lean. The walks over the references' comparisons, of equal lists and tracks; and the tracks in memory. The walks over the reference's comparisons of tracks, at equal ones.
-/
import Derived.Test.YtpeaiphdkgifaaaGreatDoorWbp
import Derived.Test.YtpeaiphdkgifaaaGreatDoorWbc
import Derived.Test.YtpeaiphdkgifaaaGreatDoorWba
import Derived.Deep.QuietTactic
import Derived.BigQuiet
import Derived.Test.YtpeaiphdkgifaaaGreatDoorWbn
namespace Go.Proofs.YtpeaiphdkgifaaaGreatDoor
open Go.RowKit
set_option maxHeartbeats 20000000
set_option maxRecDepth 100000
theorem step_len {n : Net} {nx : List NsC} {canc : List Int} {dst : Int} {it : Itm} (h : it.stops ≠ []) : (stepI n nx canc dst it).stops.length = it.stops.length + 1 := by
 have := List.length_pos_iff.2 h
 show (it.stops.dropLast ++ [_] ++ [_]).length = _
 simp
 omega
theorem of_moves {n : Net} {nx : List NsC} {canc : List Int} {dst before : Int} {it it' : Itm} (h : Moves n nx canc dst before it it') : ∀ f : Nat, it.stops ≠ [] -> 20 < f + it.stops.length -> moveF n nx canc dst before (f + 1) it = some it' := by
 induction h with
 | stay h => intro f _ _; unfold moveF; rw [if_neg h]
 | go h h2 hm ih =>
  intro f hne hf
  unfold moveF
  rw [if_pos h, if_neg (by omega)]
  obtain ⟨f', rfl⟩ : ∃ f', f = f' + 1 := ⟨f - 1, by omega⟩
  exact ih f' (by unfold stepI decideI goneI; simp) (by rw [step_len hne]; omega)
theorem Moves.run {n : Net} {nx : List NsC} {canc : List Int} {dst before : Int} {it it' : Itm} (h : Moves n nx canc dst before it it') (hne : it.stops ≠ []) : moveF n nx canc dst before 21 it = some it' := of_moves h 20 hne (by have := List.length_pos_iff.2 hne; omega)
theorem Moves.join {n : Net} {nx : List NsC} {canc : List Int} {dst t u : Int} {it x y : Itm} (h : Moves n nx canc dst t it x) (htu : t <= u) (k : Moves n nx canc dst u x y) : Moves n nx canc dst u it y := by
 induction h with
 | stay _ => exact k
 | go h h2 _ ih => exact .go ⟨h.1, by omega⟩ h2 (ih k)
theorem procF_all {n : Net} {nx : List NsC} {canc : List Int} {u : Int} {all : List Itm} : ∀ {l l' : List Itm}, l'.length = l.length -> (∀ (i : Nat) (x y : Itm), l[i]? = some x -> l'[i]? = some y -> moveF n nx canc (toOf all x) u 21 x = some y) -> procF n nx canc u all l = some l'
 | [], [], _, _ => rfl
 | [], _ :: _, h, _ => by simp at h
 | _ :: _, [], h, _ => by simp at h
 | x :: l, y :: l', h, hm => by
  unfold procF
  rw [hm 0 x y rfl rfl]
  dsimp only
  rw [procF_all (l := l) (l' := l') (by simpa using h) (fun i a b ha hb => hm (i + 1) a b ha hb)]
  rfl
def ownB (l : List UInt8) (d : Ded) : Bool := d.kind == 5 || (d.kind == 1 && d.post.label == l) || (!(d.kind == 1) && d.label == l)
theorem own_posted {l : List UInt8} {ds : List Ded} : l ∈ postedL (ds.filter (ownB l)) ↔ l ∈ postedL ds := by
 unfold postedL
 simp only [List.mem_map, List.mem_filter]
 constructor
 ·rintro ⟨d, ⟨⟨h1, h2⟩, h3⟩, e⟩
  exact ⟨d, ⟨h1, h3⟩, e⟩
 ·rintro ⟨d, ⟨h1, h3⟩, e⟩
  refine ⟨d, ⟨⟨h1, ?_⟩, h3⟩, e⟩
  have hk : d.kind = 1 := by simpa using h3
  unfold ownB
  simp [hk, e]
theorem own_ok {n : Net} {l : List UInt8} : ∀ {ds bef : List Ded} {t u : Int}, DedsOk n bef t ds -> (∀ d ∈ ds, d.kind ≠ 4) -> u <= t -> DedsOk n (bef.filter (ownB l)) u (ds.filter (ownB l))
 | [], _, _, _, _, _, _ => trivial
 | d :: ds, bef, t, u, h, h4, hu => by
  obtain ⟨h1, h2, h3, hr⟩ := h
  have hr' := own_ok (l := l) (u := if ownB l d = true then d.time else u) hr (fun e he => h4 e (List.mem_cons_of_mem _ he)) (by split <;> omega)
  rw [List.filter_cons]
  by_cases ho : ownB l d = true
  ·rw [if_pos ho]
   rw [if_pos ho, List.filter_append] at hr'
   have e : [d].filter (ownB l) = [d] := by simp [ho]
   rw [e] at hr'
   refine ⟨by omega, h2, ?_, hr'⟩
   rcases h3 with ⟨hk, hl, hnew, hrest⟩ | ⟨hk, hl⟩ | ⟨hk, -⟩ | hk
   ·have hdl : d.post.label = l := by
     unfold ownB at ho
     simpa [hk] using ho
    exact .inl ⟨hk, hl, fun hm => hnew (by rw [hdl] at hm ⊢; exact own_posted.1 hm), hrest⟩
   ·have hdl : d.label = l := by
     unfold ownB at ho
     rcases hk with hk | hk
     ·simpa [hk] using ho
     ·simpa [hk] using ho
    exact .inr (.inl ⟨hk, by rw [hdl] at hl ⊢; exact own_posted.2 hl⟩)
   ·exact absurd hk (h4 d (List.mem_cons_self ..))
   ·exact .inr (.inr (.inr hk))
  ·rw [if_neg ho]
   rw [if_neg ho, List.filter_append] at hr'
   have e : [d].filter (ownB l) = [] := by simp [ho]
   rw [e, List.append_nil] at hr'
   exact hr'
def TwinI (n : Net) (nx : List NsC) (canc : List Int) (t : Int) (y x : Itm) : Prop := y = x ∨ Moves n nx canc x.post.dst t y x
structure Twin (n : Net) (nx : List NsC) (l : List UInt8) (t : Int) (h g : Hst) : Prop where
 canc : g.canc = h.canc
 labs : ∀ x ∈ h.items, x.labs = [x.post.label]
 it : (l ∉ (h.items.map fun i => i.post.label) /\ g.items = []) ∨ ∃ x y, x ∈ h.items /\ x.post.label = l /\ g.items = [y] /\ y.stops ≠ [] /\ y.post = x.post /\ y.labs = x.labs /\ TwinI n nx h.canc t y x
theorem TwinI.moves {n : Net} {nx : List NsC} {canc : List Int} {t u : Int} {y x x' : Itm} (h : TwinI n nx canc t y x) (hu : t <= u) (hm : Moves n nx canc x.post.dst u x x') : Moves n nx canc x.post.dst u y x' := by
 rcases h with rfl | h
 ·exact hm
 ·exact h.join hu hm
theorem Twin.proc {n : Net} {nx : List NsC} {l : List UInt8} {bef : List Ded} {t u : Int} {h g : Hst} {m : List Itm} (H : HsOk n nx bef t h) (T : Twin n nx l t h g) (hu : t <= u) (hp : procF n nx h.canc u h.items h.items = some m) :
  Twin n nx l u ⟨m, h.canc⟩ g /\ ((l ∉ (m.map fun i => i.post.label) /\ g.items = [] /\ procF n nx g.canc u g.items g.items = some []) ∨ ∃ x', x' ∈ m /\ x'.post.label = l /\ procF n nx g.canc u g.items g.items = some [x']) := by
 obtain ⟨p1, p2⟩ := procF_get hp
 have hlab : (m.map fun i => i.post.label) = h.items.map fun i => i.post.label := by
  have := congrArg (List.map (·.label)) (proc_posts hp)
  simpa [Function.comp_def] using this
 have hml : ∀ x ∈ m, x.labs = [x.post.label] := fun x' hx => by
  obtain ⟨x, hi, hmv⟩ := procF_back hp hx
  have hs := move_same hmv
  rw [hs.labs, hs.post]
  exact T.labs x hi
 rcases T.it with ⟨a1, a2⟩ | ⟨x, y, hx, e1, e2, e3, e4, e5, e6⟩
 ·refine ⟨⟨T.canc, hml, .inl ⟨by rw [hlab]; exact a1, a2⟩⟩, .inl ⟨by rw [hlab]; exact a1, a2, by rw [a2]; rfl⟩⟩
 ·obtain ⟨i, hi⟩ := List.getElem?_of_mem hx
  obtain ⟨x', hx', hmv⟩ := p2 i x hi
  have hto := toOf_one H.nodup hx (T.labs x hx)
  rw [hto] at hmv
  have hs := move_same hmv
  have hM := e6.moves hu (moves_of hmv)
  have hMx : Moves n nx h.canc x'.post.dst u y x' := by rw [hs.post]; exact hM
  refine ⟨⟨T.canc, hml, .inr ⟨x', y, List.mem_of_getElem? hx', by rw [hs.post]; exact e1, e2, e3, by rw [hs.post]; exact e4, by rw [hs.labs]; exact e5, .inr hMx⟩⟩, .inr ⟨x', List.mem_of_getElem? hx', by rw [hs.post]; exact e1, ?_⟩⟩
  rw [e2, T.canc]
  refine procF_all rfl (fun j a b ha hb => ?_)
  cases j with
  | zero =>
   simp at ha hb
   subst ha hb
   have hyl : y.labs = [y.post.label] := by rw [e5, e4]; exact T.labs x hx
   rw [toOf_self hyl, e4]
   exact hM.run e3
  | succ j => simp at ha
theorem Twin.other {n : Net} {nx : List NsC} {l : List UInt8} {bef : List Ded} {d : Ded} {h g : Hst} (hd : DedOk n bef d) (h4 : d.kind ≠ 4) (ho : ¬ ownB l d = true) (T : Twin n nx l d.time h g) : Twin n nx l d.time (actR n nx h d) g := by
 have ho' : d.kind ≠ 5 /\ (d.kind = 1 -> d.post.label ≠ l) /\ (d.kind ≠ 1 -> d.label ≠ l) := by
  unfold ownB at ho
  simp at ho
  exact ⟨ho.1.1, ho.1.2, ho.2⟩
 have gen : ∀ f : Itm -> Itm, (∀ it ∈ h.items, (f it).post = it.post /\ (f it).labs = it.labs /\ (it.post.label = l -> f it = it)) -> Twin n nx l d.time ⟨h.items.map f, h.canc⟩ g := by
  intro f hf
  refine ⟨T.canc, fun x hx => ?_, ?_⟩
  ·obtain ⟨it, hi, rfl⟩ := List.mem_map.1 hx
   rw [(hf it hi).1, (hf it hi).2.1]
   exact T.labs it hi
  ·have e : ((h.items.map f).map fun i => i.post.label) = h.items.map fun i => i.post.label := by
    rw [List.map_map]
    exact List.map_congr_left (fun it hi => by show (f it).post.label = _; rw [(hf it hi).1])
   rcases T.it with ⟨a1, a2⟩ | ⟨x, y, hx, e1, e2⟩
   ·exact .inl ⟨by show l ∉ ((h.items.map f).map fun i => i.post.label); rw [e]; exact a1, a2⟩
   ·exact .inr ⟨x, y, List.mem_map.2 ⟨x, hx, (hf x hx).2.2 e1⟩, e1, e2⟩
 rcases hd with ⟨hk, hl, hnew, hfr, hto, hcl, hacc⟩ | ⟨hk, hl⟩ | ⟨hk, -⟩ | ⟨hk, -⟩
 ·unfold actR
  rw [if_pos hk]
  refine ⟨T.canc, fun x hx => ?_, ?_⟩
  ·rcases List.mem_append.1 hx with hx | hx
   ·exact T.labs x hx
   ·rw [List.mem_singleton.1 hx]
    rfl
  ·rcases T.it with ⟨a1, a2⟩ | ⟨x, y, hx, e1, e2⟩
   ·refine .inl ⟨?_, a2⟩
    show l ∉ (List.map (fun i : Itm => i.post.label) (h.items ++ [_]))
    rw [List.map_append]
    intro hm
    rcases List.mem_append.1 hm with hm | hm
    ·exact a1 hm
    ·have hm' : l ∈ [d.post.label] := hm
     exact ho'.2.1 hk (List.mem_singleton.1 hm').symm
   ·exact .inr ⟨x, y, List.mem_append_left _ hx, e1, e2⟩
 ·unfold actR
  have hn1 : d.kind ≠ 1 := by omega
  have hdl := ho'.2.2 hn1
  rcases hk with hk | hk
  ·rw [if_neg (by omega), if_pos hk]
   refine gen _ (fun it _ => ?_)
   split
   ·rename_i e
    exact ⟨rfl, rfl, fun e2 => absurd (by rw [<- e2]; simpa using e) (fun h : l = d.label => hdl h.symm)⟩
   ·exact ⟨rfl, rfl, fun _ => rfl⟩
  ·rw [if_neg (by omega), if_neg (by omega), if_pos hk]
   refine gen _ (fun it _ => ?_)
   split
   ·rename_i e
    refine ⟨?_, ?_, fun e2 => absurd (by rw [<- e2]; simpa using e) (fun h : l = d.label => hdl h.symm)⟩
    ·unfold holdI
     split
     ·rfl
     ·split <;> rfl
    ·unfold holdI
     split
     ·rfl
     ·split <;> rfl
   ·exact ⟨rfl, rfl, fun _ => rfl⟩
 ·exact absurd hk h4
 ·exact absurd hk ho'.1
theorem Twin.own {n : Net} {nx : List NsC} {l : List UInt8} {bef : List Ded} {d : Ded} {h : Hst} {m : List Itm} (H : HsOk n nx bef d.time h) (hd : DedOk n bef d) (h4 : d.kind ≠ 4) (ho : ownB l d = true) (hlabs : ∀ x ∈ h.items, x.labs = [x.post.label])
  (hm : (l ∉ (h.items.map fun i => i.post.label) /\ m = []) ∨ ∃ x, x ∈ h.items /\ x.post.label = l /\ m = [x]) : Twin n nx l d.time (actR n nx h d) (actR n nx ⟨m, h.canc⟩ d) := by
 have gen : ∀ (f : Itm -> Itm) (g : Itm -> Itm) (canc : List Int), (∀ it ∈ h.items, (f it).post = it.post /\ (f it).labs = it.labs /\ (f it).stops ≠ [] /\ (it.post.label = l -> g it = f it)) -> Twin n nx l d.time ⟨h.items.map f, canc⟩ ⟨m.map g, canc⟩ := by
  intro f g canc hf
  refine ⟨rfl, fun x hx => ?_, ?_⟩
  ·obtain ⟨it, hi, rfl⟩ := List.mem_map.1 hx
   rw [(hf it hi).1, (hf it hi).2.1]
   exact hlabs it hi
  ·have e : ((h.items.map f).map fun i => i.post.label) = h.items.map fun i => i.post.label := by
    rw [List.map_map]
    exact List.map_congr_left (fun it hi => by show (f it).post.label = _; rw [(hf it hi).1])
   rcases hm with ⟨a1, a2⟩ | ⟨x, hx, e1, e2⟩
   ·exact .inl ⟨by show l ∉ ((h.items.map f).map fun i => i.post.label); rw [e]; exact a1, by rw [a2]; rfl⟩
   ·obtain ⟨b1, b2, b3, b4⟩ := hf x hx
    exact .inr ⟨f x, f x, List.mem_map.2 ⟨x, hx, rfl⟩, by rw [b1]; exact e1, by rw [e2]; show [g x] = _; rw [b4 e1], b3, rfl, rfl, .inl rfl⟩
 have hne : ∀ it ∈ h.items, it.stops ≠ [] := fun it hi => path_ne (H.item it hi).path
 have hto : ∀ it ∈ h.items, it.post.label = l -> toOf m it = toOf h.items it := fun it hi e => by
  rcases hm with ⟨a1, a2⟩ | ⟨x, hx, e1, e2⟩
  ·exact absurd (List.mem_map.2 ⟨it, hi, e⟩) a1
  ·have : it = x := nodup_inj H.nodup hi hx (by rw [e, e1])
   subst this
   rw [e2, toOf_self (hlabs it hi), toOf_one H.nodup hi (hlabs it hi)]
 rcases hd with ⟨hk, hl, hnew, hfr, hto2, hcl, hacc⟩ | ⟨hk, hl⟩ | ⟨hk, -⟩ | ⟨hk, -⟩
 ·have hdl : d.post.label = l := by
   unfold ownB at ho
   simpa [hk] using ho
  have hnl : l ∉ (h.items.map fun i => i.post.label) := by rw [H.labels, <- hdl]; exact hnew
  have hm0 : m = [] := by
   rcases hm with ⟨-, a2⟩ | ⟨x, hx, e1, -⟩
   ·exact a2
   ·exact absurd (List.mem_map.2 ⟨x, hx, e1⟩) hnl
  subst hm0
  unfold actR
  rw [if_pos hk, if_pos hk]
  refine ⟨rfl, fun x hx => ?_, .inr ⟨decideI n nx h.canc d.post.dst (newI d.post), _, List.mem_append_right _ (List.mem_singleton.2 rfl), hdl, rfl, by unfold decideI newI; simp, rfl, rfl, .inl rfl⟩⟩
  rcases List.mem_append.1 hx with hx | hx
  ·exact hlabs x hx
  ·rw [List.mem_singleton.1 hx]
   rfl
 ·unfold actR
  rcases hk with hk | hk
  ·rw [if_neg (by omega), if_pos hk, if_neg (by omega), if_pos hk]
   refine gen _ _ h.canc (fun it hi => ?_)
   split
   ·exact ⟨rfl, rfl, hne it hi, fun e => by dsimp only; rw [hto it hi e]⟩
   ·exact ⟨rfl, rfl, hne it hi, fun _ => rfl⟩
  ·rw [if_neg (by omega), if_neg (by omega), if_pos hk, if_neg (by omega), if_neg (by omega), if_pos hk]
   refine gen _ _ h.canc (fun it hi => ?_)
   split
   ·refine ⟨?_, ?_, ?_, fun _ => rfl⟩
    ·unfold holdI
     split
     ·rfl
     ·split <;> rfl
    ·unfold holdI
     split
     ·rfl
     ·split <;> rfl
    ·unfold holdI
     split
     ·exact hne it hi
     ·split <;> exact hne it hi
   ·exact ⟨rfl, rfl, hne it hi, fun _ => rfl⟩
 ·exact absurd hk h4
 ·unfold actR
  rw [if_neg (by omega), if_neg (by omega), if_neg (by omega), if_neg (by omega), if_neg (by omega), if_neg (by omega), if_neg (by omega), if_neg (by omega)]
  refine gen _ _ (d.line :: h.canc) (fun it hi => ?_)
  split
  ·exact ⟨rfl, rfl, hne it hi, fun _ => rfl⟩
  ·exact ⟨rfl, rfl, hne it hi, fun _ => rfl⟩
theorem twin_acts {n : Net} {nx : List NsC} (hG : Good n) (hF : Formed n nx) {l : List UInt8} : ∀ {ds bef : List Ded} {t : Int} {h a g : Hst}, actsF n nx ds h = some a -> DedsOk n bef t ds -> (∀ d ∈ ds, d.kind ≠ 4) -> 0 <= t -> t <= 1000000 -> HsOk n nx bef t h -> Twin n nx l t h g ->
  ∃ u b, u <= 1000000 /\ actsF n nx (ds.filter (ownB l)) g = some b /\ HsOk n nx (bef ++ ds) u a /\ Twin n nx l u a b
 | [], bef, t, h, a, g, hr, _, _, _, ht, H, T => by
  cases hr
  rw [List.append_nil]
  exact ⟨t, g, ht, rfl, H, T⟩
 | d :: ds, bef, t, h, a, g, hr, hd, h4, h0, ht, H, T => by
  rw [actsF] at hr
  obtain ⟨d1, d2, d3, d4⟩ := hd
  have h4d := h4 d (List.mem_cons_self ..)
  have h4r : ∀ e ∈ ds, e.kind ≠ 4 := fun e he => h4 e (List.mem_cons_of_mem _ he)
  cases hp : procF n nx h.canc d.time h.items h.items with
  | none => rw [hp] at hr; cases hr
  | some m =>
   rw [hp] at hr
   obtain ⟨HB, -⟩ := H.proc hG hF d1 hp
   obtain ⟨TB, hown⟩ := T.proc H d1 hp
   have HA := HB.act d3 (by omega) d2
   rw [List.filter_cons]
   by_cases ho : ownB l d = true
   ·rw [if_pos ho]
    have hTo : ∃ m2, procF n nx g.canc d.time g.items g.items = some m2 /\ ((l ∉ (m.map fun i => i.post.label) /\ m2 = []) ∨ ∃ x, x ∈ m /\ x.post.label = l /\ m2 = [x]) := by
     rcases hown with ⟨b1, -, b3⟩ | ⟨x', b1, b2, b3⟩
     ·exact ⟨[], b3, .inl ⟨b1, rfl⟩⟩
     ·exact ⟨[x'], b3, .inr ⟨x', b1, b2, rfl⟩⟩
    obtain ⟨m2, hm2, hc⟩ := hTo
    have TA := Twin.own (h := ⟨m, h.canc⟩) HB d3 h4d ho TB.labs hc
    rw [actsF, hm2]
    have := twin_acts hG hF (l := l) hr d4 h4r (by omega) d2 HA TA
    rw [List.append_assoc] at this
    obtain ⟨u, b, b1, b2, b3, b4⟩ := this
    exact ⟨u, b, b1, by rw [T.canc]; exact b2, b3, b4⟩
   ·rw [if_neg ho]
    have TA := TB.other d3 h4d ho
    have := twin_acts hG hF (l := l) hr d4 h4r (by omega) d2 HA TA
    rwa [List.append_assoc] at this
theorem alone_end {n : Net} {nx : List NsC} (hG : Good n) (hF : Formed n nx) {ds : List Ded} {h : Hst} (hr : runR n nx ds = some h) (hd : DedsOk n [] 0 ds) (h4 : ∀ d ∈ ds, d.kind ≠ 4) {it : Itm} (hi : it ∈ h.items) :
  DedsOk n [] 0 (ds.filter (ownB it.post.label)) /\ ∃ c, runR n nx (ds.filter (ownB it.post.label)) = some ⟨[it], c⟩ := by
 refine ⟨own_ok (bef := []) hd h4 (Int.le_refl _), ?_⟩
 obtain ⟨H, -⟩ := run_ok hG hF hr hd
 unfold runR at hr ⊢
 rw [runF_acts] at hr ⊢
 obtain ⟨a, ha, hr⟩ := Option.bind_eq_some_iff.1 hr
 obtain ⟨l, hl, rfl⟩ := Option.map_eq_some_iff.1 hr
 obtain ⟨u, b, hu, hb, HA, T⟩ := twin_acts hG hF (l := it.post.label) ha hd h4 (by omega) (by omega) (hs_nil n nx) ⟨rfl, fun x hx => (by cases hx), .inl ⟨by simp, rfl⟩⟩
 rw [hb]
 obtain ⟨-, hown⟩ := T.proc HA (show u <= bigT by unfold bigT; omega) hl
 rcases hown with ⟨b1, -⟩ | ⟨x', b1, b2, b3⟩
 ·exact absurd (List.mem_map.2 ⟨it, hi, rfl⟩) b1
 ·have : x' = it := nodup_inj H.nodup b1 hi b2
  subst this
  exact ⟨b.canc, by show (procF n nx b.canc bigT b.items b.items).map _ = _; rw [b3]; rfl⟩
structure SameT (a b : Trk) : Prop where
 post : a.post = b.post
 stops : a.stops = b.stops
 lost : a.lost = b.lost
 since : a.since = b.since
 labs : a.labs = b.labs
 seals : a.seals = b.seals
section
attribute [local go_sem] Oper.semAt_some
theorem sameTrack_refl (a b : Trk) (w : World) (h : SameT a b) (hA : TrkIn w a) (hB : TrkIn w b) (hs : a.Short) :
  Calls Tryz.prog 20 #[trkV a, trkV b] w fun e w' => e = .returned (.bool true) /\ Below w.heap.size w w' := by
 obtain ⟨⟨l, f, d, k, t⟩, st, lo, si, la, se, sA, sC, nA, nC, lA, lC, eA, eC⟩ := a
 obtain ⟨p', st', lo', si', la', se', sA', sC', nA', nC', lA', lC', eA', eC'⟩ := b
 obtain ⟨h1, h2, h3, h4, h5, h6⟩ := h
 simp only at h1 h2 h3 h4 h5 h6
 subst h1 h2 h3 h4 h5 h6
 obtain ⟨a1, a2, a3, a4⟩ := hA
 obtain ⟨b1, b2, b3, b4⟩ := hB
 obtain ⟨s1, s2, s3, s4⟩ := hs
 simp only at a1 a2 a3 a4 b1 b2 b3 b4 s1 s2 s3 s4
 have HA := Lib.hid (And.intro a1 (And.intro a2 (And.intro a3 a4)))
 have HB := Lib.hid (And.intro b1 (And.intro b2 (And.intro b3 b4)))
 have HS := Lib.hid (And.intro s1 (And.intro s2 (And.intro s3 s4)))
 clear a1 a2 a3 a4 b1 b2 b3 b4 s1 s2 s3 s4
 have e1 : (l == l) = true := by simp
 have e2 : (f == f) = true := by simp
 have e3 : (d == d) = true := by simp
 have e4 : (k == k) = true := by simp
 have e5 : (t == t) = true := by simp
 have e6 : (lo == lo) = true := by simp
 go_enter Tryz.func20, Tryz.ntmps20
 go_upto_region 1 with fail
 have hb5 := allocs_below [trkO ⟨⟨l, f, d, k, t⟩, st, lo, si, la, se, sA, sC, nA, nC, lA, lC, eA, eC⟩, trkO ⟨⟨l, f, d, k, t⟩, st, lo, si, la, se, sA', sC', nA', nC', lA', lC', eA', eC'⟩] w
 have hg5 := allocs_get [trkO ⟨⟨l, f, d, k, t⟩, st, lo, si, la, se, sA, sC, nA, nC, lA, lC, eA, eC⟩, trkO ⟨⟨l, f, d, k, t⟩, st, lo, si, la, se, sA', sC', nA', nC', lA', lC', eA', eC'⟩] w
 have q0 := hg5 0 _ rfl
 have q1 := hg5 1 _ rfl
 change Code.wp _ _ _ _ (allocs w [trkO ⟨⟨l, f, d, k, t⟩, st, lo, si, la, se, sA, sC, nA, nC, lA, lC, eA, eC⟩, trkO ⟨⟨l, f, d, k, t⟩, st, lo, si, la, se, sA', sC', nA', nC', lA', lC', eA', eC'⟩])
 generalize allocs w [trkO ⟨⟨l, f, d, k, t⟩, st, lo, si, la, se, sA, sC, nA, nC, lA, lC, eA, eC⟩, trkO ⟨⟨l, f, d, k, t⟩, st, lo, si, la, se, sA', sC', nA', nC', lA', lC', eA', eC'⟩] = V1 at *
 have HW : Hid (Below w.heap.size w V1) := hb5
 generalize w.heap.size = X at q0 q1 hb5 ⊢
 have HC : Hid (∀ V, Below V1.heap.size V1 V -> (V.cell? ⟨X, 0, none⟩ = some (sV l) /\ V.cell? ⟨X, 1, none⟩ = some (iV f) /\ V.cell? ⟨X, 2, none⟩ = some (iV d) /\ V.cell? ⟨X, 3, none⟩ = some (iV k) /\ V.cell? ⟨X, 4, none⟩ = some (iV t) /\ V.cell? ⟨X, 5, none⟩ = some (.slice sA st.length sC) /\ V.cell? ⟨X, 6, none⟩ = some (.bool lo) /\ V.cell? ⟨X, 7, none⟩ = some (.slice nA si.length nC) /\ V.cell? ⟨X, 8, none⟩ = some (.slice lA la.length lC) /\ V.cell? ⟨X, 9, none⟩ = some (.slice eA se.length eC)) /\ (V.cell? ⟨X + 1, 0, none⟩ = some (sV l) /\ V.cell? ⟨X + 1, 1, none⟩ = some (iV f) /\ V.cell? ⟨X + 1, 2, none⟩ = some (iV d) /\ V.cell? ⟨X + 1, 3, none⟩ = some (iV k) /\ V.cell? ⟨X + 1, 4, none⟩ = some (iV t) /\ V.cell? ⟨X + 1, 5, none⟩ = some (.slice sA' st.length sC') /\ V.cell? ⟨X + 1, 6, none⟩ = some (.bool lo) /\ V.cell? ⟨X + 1, 7, none⟩ = some (.slice nA' si.length nC') /\ V.cell? ⟨X + 1, 8, none⟩ = some (.slice lA' la.length lC') /\ V.cell? ⟨X + 1, 9, none⟩ = some (.slice eA' se.length eC'))) := fun V hb => by
  have k0 := (hb.block _ (block_lt q0)).trans q0
  have k1 := (hb.block _ (block_lt q1)).trans q1
  exact ⟨⟨cell_of_row _ _ 0 _ _ _ k0, cell_of_row _ _ 1 _ _ _ k0, cell_of_row _ _ 2 _ _ _ k0, cell_of_row _ _ 3 _ _ _ k0, cell_of_row _ _ 4 _ _ _ k0, cell_of_row _ _ 5 _ _ _ k0, cell_of_row _ _ 6 _ _ _ k0, cell_of_row _ _ 7 _ _ _ k0, cell_of_row _ _ 8 _ _ _ k0, cell_of_row _ _ 9 _ _ _ k0⟩, cell_of_row _ _ 0 _ _ _ k1, cell_of_row _ _ 1 _ _ _ k1, cell_of_row _ _ 2 _ _ _ k1, cell_of_row _ _ 3 _ _ _ k1, cell_of_row _ _ 4 _ _ _ k1, cell_of_row _ _ 5 _ _ _ k1, cell_of_row _ _ 6 _ _ _ k1, cell_of_row _ _ 7 _ _ _ k1, cell_of_row _ _ 8 _ _ _ k1, cell_of_row _ _ 9 _ _ _ k1⟩
 obtain ⟨⟨x0, x1, x2, x3, x4, x5, x6, x7, x8, x9⟩, y0, y1, y2, y3, y4, y5, y6, y7, y8, y9⟩ := HC.out V1 (Below.refl _ _)
 clear hb5 hg5 q0 q1
 go_wp2_with fail
 refine (stops_refl st sA sA' sC sC' V1 (HA.out.1.below HW.out) (HB.out.1.below HW.out) HS.out.1).mono ?_
 rintro e V2 ⟨rfl, hb⟩
 have HB2 := Lib.hid hb
 have HW2 : Hid (Below w.heap.size w V2) := HW.out.trans (hb.mono HW.out.size)
 clear hb x0 x1 x2 x3 x4 x5 x6 x7 x8 x9 y0 y1 y2 y3 y4 y5 y6 y7 y8 y9
 obtain ⟨⟨-, -, -, -, -, x5, x6, x7, x8, x9⟩, -, -, -, -, -, y5, y6, y7, y8, y9⟩ := HC.out V2 HB2.out
 go_wp2_with fail
 refine (ints_refl si nA nA' nC nC' V2 (HA.out.2.1.below HW2.out) (HB.out.2.1.below HW2.out) HS.out.2.1).mono ?_
 rintro e V3 ⟨rfl, hb⟩
 have HB3 := Lib.hid (bt HB2.out hb)
 have HW3 : Hid (Below w.heap.size w V3) := HW2.out.trans (hb.mono HW2.out.size)
 clear hb x5 x6 x7 x8 x9 y5 y6 y7 y8 y9
 obtain ⟨⟨-, -, -, -, -, x5, x6, x7, x8, x9⟩, -, -, -, -, -, y5, y6, y7, y8, y9⟩ := HC.out V3 HB3.out
 go_wp2_with fail
 refine (strs_refl la lA lA' lC lC' V3 (HA.out.2.2.1.below HW3.out) (HB.out.2.2.1.below HW3.out) HS.out.2.2.1).mono ?_
 rintro e V4 ⟨rfl, hb⟩
 have HB4 := Lib.hid (bt HB3.out hb)
 have HW4 : Hid (Below w.heap.size w V4) := HW3.out.trans (hb.mono HW3.out.size)
 clear hb x5 x6 x7 x8 x9 y5 y6 y7 y8 y9
 obtain ⟨⟨-, -, -, -, -, x5, x6, x7, x8, x9⟩, -, -, -, -, -, y5, y6, y7, y8, y9⟩ := HC.out V4 HB4.out
 go_wp2_with fail
 refine (strs_refl se eA eA' eC eC' V4 (HA.out.2.2.2.below HW4.out) (HB.out.2.2.2.below HW4.out) HS.out.2.2.2).mono ?_
 rintro e V5 ⟨rfl, hb⟩
 have HW5 : Hid (Below w.heap.size w V5) := HW4.out.trans (hb.mono HW4.out.size)
 clear hb x5 x6 x7 x8 x9 y5 y6 y7 y8 y9
 go_wp2_with fail
 go_ret
 exact ⟨rfl, HW5.out⟩
end
end Go.Proofs.YtpeaiphdkgifaaaGreatDoor
