/-
  Laws of histories, in plain Lean: stops, labels, losses and cancellations. Laws of histories, in plain Lean: losses, cancellations, a further hold, items alone. Without exchanges an item has the track that it has with its own deeds alone, in plain Lean. Where an item is, the way of an item alone, labels without exchanges: in plain Lean. The walk over the law's labelAt.
-/
import Derived.Test.YtpeaiphdkgifaaaGreatDoorWbp
import Derived.Test.YtpeaiphdkgifaaaGreatDoorWbc
import Derived.Test.YtpeaiphdkgifaaaGreatDoorWam
import Derived.Test.YtpeaiphdkgifaaaGreatDoorWbn
namespace Go.Proofs.YtpeaiphdkgifaaaGreatDoor
open Go.RowKit
set_option maxHeartbeats 20000000
set_option maxRecDepth 100000
def labAt (t : Int) : List Int -> List (List UInt8) -> List UInt8 -> List UInt8
 | s :: ss, l :: ls, x => labAt t ss ls (if s <= t then l else x)
 | _, _, x => x
def labT (t : Int) (it : Itm) : List UInt8 := labAt t it.since it.labs []
theorem labAt_snoc (t u : Int) (l : List UInt8) : ∀ (ss : List Int) (ls : List (List UInt8)) (x : List UInt8), ss.length = ls.length -> labAt t (ss ++ [u]) (ls ++ [l]) x = if u <= t then l else labAt t ss ls x
 | [], [], x, _ => rfl
 | [], _ :: _, _, h => by simp at h
 | _ :: _, [], _, h => by simp at h
 | s :: ss, m :: ls, x, h => by
  simp only [List.cons_append, labAt]
  exact labAt_snoc t u l ss ls _ (by simpa using h)
theorem labAt_last (t : Int) : ∀ (ss : List Int) (ls : List (List UInt8)) (x : List UInt8), ss.length = ls.length -> (∀ s ∈ ss, s <= t) -> labAt t ss ls x = ls.getLastD x
 | [], [], x, _, _ => rfl
 | [], _ :: _, _, h, _ => by simp at h
 | _ :: _, [], _, h, _ => by simp at h
 | s :: ss, m :: ls, x, h, hs => by
  simp only [labAt]
  rw [if_pos (hs s (List.mem_cons_self ..)), labAt_last t ss ls m (by simpa using h) (fun u hu => hs u (List.mem_cons_of_mem _ hu))]
  cases ls with
  | nil => rfl
  | cons a l => simp [List.getLastD]
theorem map_swap {α β : Type} {f g : α -> β} {a b : α} {l : List α} (hn : l.Nodup) (ha : a ∈ l) (hb : b ∈ l) (hab : a ≠ b) (h1 : g a = f b) (h2 : g b = f a) (h3 : ∀ x ∈ l, x ≠ a -> x ≠ b -> g x = f x) : (l.map g).Perm (l.map f) := by
 obtain ⟨s, t, rfl⟩ := List.append_of_mem ha
 have p1 : (s ++ a :: t).Perm (a :: (s ++ t)) := List.perm_middle
 have hb2 : b ∈ s ++ t := by
  have := p1.mem_iff.1 hb
  rcases List.mem_cons.1 this with e | e
  ·exact absurd e.symm hab
  ·exact e
 obtain ⟨u, v, huv⟩ := List.append_of_mem hb2
 have p2 : (s ++ t).Perm (b :: (u ++ v)) := by rw [huv]; exact List.perm_middle
 have p3 : (s ++ a :: t).Perm (a :: b :: (u ++ v)) := p1.trans (p2.cons a)
 have hn2 : (a :: b :: (u ++ v)).Nodup := p3.nodup_iff.1 hn
 have e : (u ++ v).map g = (u ++ v).map f := List.map_congr_left (fun x hx => h3 x (p3.mem_iff.2 (List.mem_cons_of_mem _ (List.mem_cons_of_mem _ hx))) (fun e => by
  subst e
  exact (List.nodup_cons.1 hn2).1 (List.mem_cons_of_mem _ hx)) (fun e => by
  subst e
  exact (List.nodup_cons.1 (List.nodup_cons.1 hn2).2).1 hx))
 have q1 := p3.map g
 have q2 := p3.map f
 simp only [List.map_cons] at q1 q2
 rw [e, h1, h2] at q1
 exact q1.trans ((List.Perm.swap _ _ _).trans q2.symm)
def accL (t : Int) (l : List Itm) : List Itm := l.filter fun it => decide (it.post.acc <= t)
def LabInv (h : Hst) : Prop := ∀ t, ((accL t h.items).map (labT t)).Perm ((accL t h.items).map fun i => i.post.label)
theorem accL_map {t : Int} {l : List Itm} {f : Itm -> Itm} (h : ∀ it ∈ l, (f it).post = it.post) : accL t (l.map f) = (accL t l).map f := by
 unfold accL
 rw [List.filter_map]
 congr 1
 apply List.filter_congr
 intro x hx
 show decide ((f x).post.acc <= t) = _
 rw [h x hx]
theorem labInv_same {h : Hst} {l : List Itm} {canc : List Int} (hi : LabInv h) (f : Itm -> Itm) (hl : l = h.items.map f) (hf : ∀ it ∈ h.items, (f it).post = it.post /\ (f it).since = it.since /\ (f it).labs = it.labs) : LabInv ⟨l, canc⟩ := by
 intro t
 subst hl
 show ((accL t (h.items.map f)).map (labT t)).Perm ((accL t (h.items.map f)).map fun i => i.post.label)
 rw [accL_map (fun it hi => (hf it hi).1), List.map_map, List.map_map]
 have hm : ∀ it ∈ accL t h.items, it ∈ h.items := fun it hi => (List.mem_filter.1 hi).1
 rw [List.map_congr_left (g := labT t) (fun it hi => by
   show labT t (f it) = labT t it
   unfold labT
   rw [(hf it (hm it hi)).2.1, (hf it (hm it hi)).2.2]),
  List.map_congr_left (f := (fun i : Itm => i.post.label) ∘ f) (g := fun i : Itm => i.post.label) (fun it hi => by
   show (f it).post.label = it.post.label
   rw [(hf it (hm it hi)).1])]
 exact hi t
theorem nodup_items {l : List Itm} (h : (l.map fun i => i.post.label).Nodup) : l.Nodup := by
 induction l with
 | nil => exact List.Pairwise.nil
 | cons a l ih =>
  rw [List.map_cons] at h
  obtain ⟨h1, h2⟩ := List.nodup_cons.1 h
  exact List.nodup_cons.2 ⟨fun hm => h1 (List.mem_map.2 ⟨a, hm, rfl⟩), ih h2⟩
theorem acc_le {t : Int} {it : Itm} (h : ItT t it) : it.post.acc <= t := by
 have h1 := h.head
 cases hs : it.since with
 | nil => rw [hs] at h1; cases h1
 | cons a l =>
  rw [hs] at h1
  cases h1
  exact h.sin _ (by rw [hs]; exact List.mem_cons_self ..)
theorem labInv_act {n : Net} {nx : List NsC} {bef : List Ded} {d : Ded} {h : Hst} (H : HsOk n nx bef d.time h) (hd : DedOk n bef d) (hi : LabInv h) : LabInv (actR n nx h d) := by
 rcases hd with ⟨hk, hl, hnew, hfr, hto, hcl, hacc⟩ | ⟨hk, hl⟩ | ⟨hk, hl, ho, hne⟩ | ⟨hk, hl1, hl2⟩
 ·unfold actR
  rw [if_pos hk]
  intro t
  show ((accL t (h.items ++ [_])).map (labT t)).Perm ((accL t (h.items ++ [_])).map fun i => i.post.label)
  unfold accL
  rw [List.filter_append]
  by_cases ht : d.post.acc <= t
  ·have e : [decideI n nx h.canc d.post.dst (newI d.post)].filter (fun it => decide (it.post.acc <= t)) = [decideI n nx h.canc d.post.dst (newI d.post)] := by
    simp [decideI, newI, ht]
   rw [e, List.map_append, List.map_append]
   refine (hi t).append ?_
   have : labT t (decideI n nx h.canc d.post.dst (newI d.post)) = d.post.label := by
    show labAt t [d.post.acc] [d.post.label] [] = _
    simp [labAt, ht]
   simp only [List.map_cons, List.map_nil, this]
   exact List.Perm.refl _
  ·have e : [decideI n nx h.canc d.post.dst (newI d.post)].filter (fun it => decide (it.post.acc <= t)) = [] := by
    simp [decideI, newI]
    omega
   rw [e, List.append_nil]
   exact hi t
 ·unfold actR
  rcases hk with hk | hk
  ·rw [if_neg (by omega), if_pos hk]
   refine labInv_same hi _ rfl (fun it _ => ?_)
   split <;> exact ⟨rfl, rfl, rfl⟩
  ·rw [if_neg (by omega), if_neg (by omega), if_pos hk]
   refine labInv_same hi _ rfl (fun it _ => ?_)
   split
   ·unfold holdI
    split
    ·exact ⟨rfl, rfl, rfl⟩
    ·split <;> exact ⟨rfl, rfl, rfl⟩
   ·exact ⟨rfl, rfl, rfl⟩
 ·unfold actR
  rw [if_neg (by omega), if_neg (by omega), if_neg (by omega), if_pos hk]
  obtain ⟨a, ha, ea, fa⟩ := H.find hl
  obtain ⟨b, hb, eb, fb⟩ := H.find ho
  rw [fa, fb]
  dsimp only
  split
  case isFalse => exact hi
  intro t
  show ((accL t (h.items.map (swapI n nx h.canc h.items d a b))).map (labT t)).Perm ((accL t (h.items.map (swapI n nx h.canc h.items d a b))).map fun i => i.post.label)
  have hpo : ∀ it, (swapI n nx h.canc h.items d a b it).post = it.post := fun it => by
   unfold swapI
   split
   ·rfl
   ·split <;> rfl
  rw [accL_map (fun it _ => hpo it), List.map_map, List.map_map]
  have e2 : (fun i : Itm => i.post.label) ∘ swapI n nx h.canc h.items d a b = fun i : Itm => i.post.label := funext fun it => by
   show (swapI n nx h.canc h.items d a b it).post.label = _
   rw [hpo]
  rw [e2]
  refine List.Perm.trans ?_ (hi t)
  have hab : a ≠ b := fun e => hne (by rw [<- ea, <- eb, e])
  have hla : ∀ it ∈ h.items, ∀ (l : List UInt8) (u : Int × Int), labT t { relabI it l d.time with line := u.1, leave := u.2 } = if d.time <= t then l else labT t it := fun it hi l u => labAt_snoc t d.time l it.since it.labs [] (H.item it hi).labs.1
  have hsa : swapI n nx h.canc h.items d a b a = decideI n nx h.canc (toLab h.items (carr b)) (relabI a (carr b) d.time) := by unfold swapI; rw [if_pos (by simpa using ea)]
  have hsb : swapI n nx h.canc h.items d a b b = decideI n nx h.canc (toLab h.items (carr a)) (relabI b (carr a) d.time) := by unfold swapI; rw [if_neg (by simp [eb]; exact fun e => hne e.symm), if_pos (by simpa using eb)]
  have hso : ∀ x ∈ h.items, x ≠ a -> x ≠ b -> swapI n nx h.canc h.items d a b x = x := fun x hx h1 h2 => by
   unfold swapI
   rw [if_neg (fun e => h1 (nodup_inj H.nodup hx ha (by rw [ea]; simpa using e))), if_neg (fun e => h2 (nodup_inj H.nodup hx hb (by rw [eb]; simpa using e)))]
  by_cases ht : d.time <= t
  ·have hlast : ∀ it ∈ h.items, labT t it = carr it := fun it hit => labAt_last t it.since it.labs [] (H.item it hit).labs.1 (fun s hs => by have := (H.time it hit).sin s hs; omega)
   have hin : ∀ it ∈ h.items, it ∈ accL t h.items := fun it hit => List.mem_filter.2 ⟨hit, by have := acc_le (H.time it hit); simp; omega⟩
   refine map_swap ((nodup_items H.nodup).filter _) (hin a ha) (hin b hb) hab ?_ ?_ (fun x hx h1 h2 => ?_)
   ·show labT t (swapI n nx h.canc h.items d a b a) = labT t b
    rw [hsa, hlast b hb]
    exact (hla a ha (carr b) _).trans (if_pos ht)
   ·show labT t (swapI n nx h.canc h.items d a b b) = labT t a
    rw [hsb, hlast a ha]
    exact (hla b hb (carr a) _).trans (if_pos ht)
   ·show labT t (swapI n nx h.canc h.items d a b x) = labT t x
    rw [hso x (List.mem_filter.1 hx).1 h1 h2]
  ·rw [List.map_congr_left (g := labT t) (fun x hx => ?_)]
   show labT t (swapI n nx h.canc h.items d a b x) = labT t x
   have hxm := (List.mem_filter.1 hx).1
   by_cases h1 : x = a
   ·subst h1
    rw [hsa]
    exact (hla x hxm (carr b) _).trans (if_neg ht)
   ·by_cases h2 : x = b
    ·subst h2
     rw [hsb]
     exact (hla x hxm (carr a) _).trans (if_neg ht)
    ·rw [hso x hxm h1 h2]
 ·unfold actR
  rw [if_neg (by omega), if_neg (by omega), if_neg (by omega), if_neg (by omega)]
  refine labInv_same hi _ rfl (fun it _ => ?_)
  split <;> exact ⟨rfl, rfl, rfl⟩
theorem labInv_proc {n : Net} {nx : List NsC} {canc : List Int} {u : Int} {h : Hst} {l : List Itm} (hi : LabInv h) (hp : procF n nx canc u h.items h.items = some l) : LabInv ⟨l, canc⟩ := by
 obtain ⟨h1, h2⟩ := procF_get hp
 have key : ∀ t, (accL t l).map (labT t) = (accL t h.items).map (labT t) /\ (accL t l).map (fun i => i.post.label) = (accL t h.items).map fun i => i.post.label := by
  intro t
  have gen : ∀ (a b : List Itm), b.length = a.length -> (∀ (i : Nat) x, a[i]? = some x -> ∃ y, b[i]? = some y /\ SameI x y) -> (accL t b).map (labT t) = (accL t a).map (labT t) /\ (accL t b).map (fun i => i.post.label) = (accL t a).map fun i => i.post.label := by
   intro a
   induction a with
   | nil => intro b hb _; rw [List.eq_nil_of_length_eq_zero (l := b) (by simpa using hb)]; exact ⟨rfl, rfl⟩
   | cons x a ih =>
    intro b hb hs
    cases b with
    | nil => simp at hb
    | cons y b =>
     obtain ⟨y', hy, hxy⟩ := hs 0 x rfl
     simp at hy
     subst hy
     obtain ⟨i1, i2⟩ := ih b (by simpa using hb) (fun i z hz => hs (i + 1) z hz)
     have el : labT t y = labT t x := by unfold labT; rw [hxy.since, hxy.labs]
     unfold accL at i1 i2 ⊢
     simp only [List.filter_cons, hxy.post]
     split
     ·simp only [List.map_cons, el, hxy.post, i1, i2]
      exact ⟨trivial, trivial⟩
     ·exact ⟨i1, i2⟩
  exact gen h.items l h1 (fun i x hx => by
   obtain ⟨y, hy, hm⟩ := h2 i x hx
   exact ⟨y, hy, move_same hm⟩)
 intro t
 show ((accL t l).map (labT t)).Perm ((accL t l).map fun i => i.post.label)
 rw [(key t).1, (key t).2]
 exact hi t
theorem labels_once {n : Net} {nx : List NsC} (hG : Good n) (hF : Formed n nx) {ds : List Ded} {h : Hst} (hr : runR n nx ds = some h) (hd : DedsOk n [] 0 ds) (t : Int) {it : Itm} (hi : it ∈ h.items) (ha : it.post.acc <= t) :
  ((accL t h.items).map (labT t)).count it.post.label = 1 := by
 obtain ⟨H, hq, -⟩ := run_ind (Q := fun _ _ h => LabInv h) hG hF (fun _ _ _ _ _ hq _ _ hp => labInv_proc hq hp) (fun _ _ _ hq H hd _ _ => labInv_act H hd hq) hr hd (by omega) (by omega) (hs_nil n nx) (fun t => List.Perm.refl _)
 rw [(hq t).count_eq]
 have hn : ((accL t h.items).map fun i => i.post.label).Nodup := List.Nodup.sublist ((List.filter_sublist (l := h.items)).map _) H.nodup
 rw [hn.count]
 exact if_pos (List.mem_map.2 ⟨it, List.mem_filter.2 ⟨hi, by simpa using ha⟩, rfl⟩)
theorem step_len {n : Net} {nx : List NsC} {canc : List Int} {dst : Int} {it : Itm} (h : it.stops ≠ []) : (stepI n nx canc dst it).stops.length = it.stops.length + 1 := by
 have := List.length_pos_iff.2 h
 show (it.stops.dropLast ++ [_] ++ [_]).length = _
 simp
 omega
theorem of_moves {n : Net} {nx : List NsC} {canc : List Int} {dst before : Int} {it it' : Itm} (h : Moves n nx canc dst before it it') : ∀ f : Nat, it.stops ≠ [] -> 20 < f + it.stops.length -> moveF n nx canc dst before (f + 1) it = some it' := by
 induction h with
 | stay h => intro f _ _; unfold moveF; rw [if_neg h]
 | go h h2 hm ih =>
  intro f hne hf
  unfold moveF
  rw [if_pos h, if_neg (by omega)]
  obtain ⟨f', rfl⟩ : ∃ f', f = f' + 1 := ⟨f - 1, by omega⟩
  exact ih f' (by unfold stepI decideI goneI; simp) (by rw [step_len hne]; omega)
theorem Moves.run {n : Net} {nx : List NsC} {canc : List Int} {dst before : Int} {it it' : Itm} (h : Moves n nx canc dst before it it') (hne : it.stops ≠ []) : moveF n nx canc dst before 21 it = some it' := of_moves h 20 hne (by have := List.length_pos_iff.2 hne; omega)
theorem Moves.join {n : Net} {nx : List NsC} {canc : List Int} {dst t u : Int} {it x y : Itm} (h : Moves n nx canc dst t it x) (htu : t <= u) (k : Moves n nx canc dst u x y) : Moves n nx canc dst u it y := by
 induction h with
 | stay _ => exact k
 | go h h2 _ ih => exact .go ⟨h.1, by omega⟩ h2 (ih k)
theorem procF_all {n : Net} {nx : List NsC} {canc : List Int} {u : Int} {all : List Itm} : ∀ {l l' : List Itm}, l'.length = l.length -> (∀ (i : Nat) (x y : Itm), l[i]? = some x -> l'[i]? = some y -> moveF n nx canc (toOf all x) u 21 x = some y) -> procF n nx canc u all l = some l'
 | [], [], _, _ => rfl
 | [], _ :: _, h, _ => by simp at h
 | _ :: _, [], h, _ => by simp at h
 | x :: l, y :: l', h, hm => by
  unfold procF
  rw [hm 0 x y rfl rfl]
  dsimp only
  rw [procF_all (l := l) (l' := l') (by simpa using h) (fun i a b ha hb => hm (i + 1) a b ha hb)]
  rfl
def ownB (l : List UInt8) (d : Ded) : Bool := d.kind == 5 || (d.kind == 1 && d.post.label == l) || (!(d.kind == 1) && d.label == l)
def TwinI (n : Net) (nx : List NsC) (canc : List Int) (t : Int) (y x : Itm) : Prop := y = x ∨ Moves n nx canc x.post.dst t y x
structure Twin (n : Net) (nx : List NsC) (l : List UInt8) (t : Int) (h g : Hst) : Prop where
 canc : g.canc = h.canc
 labs : ∀ x ∈ h.items, x.labs = [x.post.label]
 it : (l ∉ (h.items.map fun i => i.post.label) /\ g.items = []) ∨ ∃ x y, x ∈ h.items /\ x.post.label = l /\ g.items = [y] /\ y.stops ≠ [] /\ y.post = x.post /\ y.labs = x.labs /\ TwinI n nx h.canc t y x
theorem TwinI.moves {n : Net} {nx : List NsC} {canc : List Int} {t u : Int} {y x x' : Itm} (h : TwinI n nx canc t y x) (hu : t <= u) (hm : Moves n nx canc x.post.dst u x x') : Moves n nx canc x.post.dst u y x' := by
 rcases h with rfl | h
 ·exact hm
 ·exact h.join hu hm
theorem Twin.proc {n : Net} {nx : List NsC} {l : List UInt8} {bef : List Ded} {t u : Int} {h g : Hst} {m : List Itm} (H : HsOk n nx bef t h) (T : Twin n nx l t h g) (hu : t <= u) (hp : procF n nx h.canc u h.items h.items = some m) :
  Twin n nx l u ⟨m, h.canc⟩ g /\ ((l ∉ (m.map fun i => i.post.label) /\ g.items = [] /\ procF n nx g.canc u g.items g.items = some []) ∨ ∃ x', x' ∈ m /\ x'.post.label = l /\ procF n nx g.canc u g.items g.items = some [x']) := by
 obtain ⟨p1, p2⟩ := procF_get hp
 have hlab : (m.map fun i => i.post.label) = h.items.map fun i => i.post.label := by
  have := congrArg (List.map (·.label)) (proc_posts hp)
  simpa [Function.comp_def] using this
 have hml : ∀ x ∈ m, x.labs = [x.post.label] := fun x' hx => by
  obtain ⟨x, hi, hmv⟩ := procF_back hp hx
  have hs := move_same hmv
  rw [hs.labs, hs.post]
  exact T.labs x hi
 rcases T.it with ⟨a1, a2⟩ | ⟨x, y, hx, e1, e2, e3, e4, e5, e6⟩
 ·refine ⟨⟨T.canc, hml, .inl ⟨by rw [hlab]; exact a1, a2⟩⟩, .inl ⟨by rw [hlab]; exact a1, a2, by rw [a2]; rfl⟩⟩
 ·obtain ⟨i, hi⟩ := List.getElem?_of_mem hx
  obtain ⟨x', hx', hmv⟩ := p2 i x hi
  have hto := toOf_one H.nodup hx (T.labs x hx)
  rw [hto] at hmv
  have hs := move_same hmv
  have hM := e6.moves hu (moves_of hmv)
  have hMx : Moves n nx h.canc x'.post.dst u y x' := by rw [hs.post]; exact hM
  refine ⟨⟨T.canc, hml, .inr ⟨x', y, List.mem_of_getElem? hx', by rw [hs.post]; exact e1, e2, e3, by rw [hs.post]; exact e4, by rw [hs.labs]; exact e5, .inr hMx⟩⟩, .inr ⟨x', List.mem_of_getElem? hx', by rw [hs.post]; exact e1, ?_⟩⟩
  rw [e2, T.canc]
  refine procF_all rfl (fun j a b ha hb => ?_)
  cases j with
  | zero =>
   simp at ha hb
   subst ha hb
   have hyl : y.labs = [y.post.label] := by rw [e5, e4]; exact T.labs x hx
   rw [toOf_self hyl, e4]
   exact hM.run e3
  | succ j => simp at ha
theorem Twin.other {n : Net} {nx : List NsC} {l : List UInt8} {bef : List Ded} {d : Ded} {h g : Hst} (hd : DedOk n bef d) (h4 : d.kind ≠ 4) (ho : ¬ ownB l d = true) (T : Twin n nx l d.time h g) : Twin n nx l d.time (actR n nx h d) g := by
 have ho' : d.kind ≠ 5 /\ (d.kind = 1 -> d.post.label ≠ l) /\ (d.kind ≠ 1 -> d.label ≠ l) := by
  unfold ownB at ho
  simp at ho
  exact ⟨ho.1.1, ho.1.2, ho.2⟩
 have gen : ∀ f : Itm -> Itm, (∀ it ∈ h.items, (f it).post = it.post /\ (f it).labs = it.labs /\ (it.post.label = l -> f it = it)) -> Twin n nx l d.time ⟨h.items.map f, h.canc⟩ g := by
  intro f hf
  refine ⟨T.canc, fun x hx => ?_, ?_⟩
  ·obtain ⟨it, hi, rfl⟩ := List.mem_map.1 hx
   rw [(hf it hi).1, (hf it hi).2.1]
   exact T.labs it hi
  ·have e : ((h.items.map f).map fun i => i.post.label) = h.items.map fun i => i.post.label := by
    rw [List.map_map]
    exact List.map_congr_left (fun it hi => by show (f it).post.label = _; rw [(hf it hi).1])
   rcases T.it with ⟨a1, a2⟩ | ⟨x, y, hx, e1, e2⟩
   ·exact .inl ⟨by show l ∉ ((h.items.map f).map fun i => i.post.label); rw [e]; exact a1, a2⟩
   ·exact .inr ⟨x, y, List.mem_map.2 ⟨x, hx, (hf x hx).2.2 e1⟩, e1, e2⟩
 rcases hd with ⟨hk, hl, hnew, hfr, hto, hcl, hacc⟩ | ⟨hk, hl⟩ | ⟨hk, -⟩ | ⟨hk, -⟩
 ·unfold actR
  rw [if_pos hk]
  refine ⟨T.canc, fun x hx => ?_, ?_⟩
  ·rcases List.mem_append.1 hx with hx | hx
   ·exact T.labs x hx
   ·rw [List.mem_singleton.1 hx]
    rfl
  ·rcases T.it with ⟨a1, a2⟩ | ⟨x, y, hx, e1, e2⟩
   ·refine .inl ⟨?_, a2⟩
    show l ∉ (List.map (fun i : Itm => i.post.label) (h.items ++ [_]))
    rw [List.map_append]
    intro hm
    rcases List.mem_append.1 hm with hm | hm
    ·exact a1 hm
    ·have hm' : l ∈ [d.post.label] := hm
     exact ho'.2.1 hk (List.mem_singleton.1 hm').symm
   ·exact .inr ⟨x, y, List.mem_append_left _ hx, e1, e2⟩
 ·unfold actR
  have hn1 : d.kind ≠ 1 := by omega
  have hdl := ho'.2.2 hn1
  rcases hk with hk | hk
  ·rw [if_neg (by omega), if_pos hk]
   refine gen _ (fun it _ => ?_)
   split
   ·rename_i e
    exact ⟨rfl, rfl, fun e2 => absurd (by rw [<- e2]; simpa using e) (fun h : l = d.label => hdl h.symm)⟩
   ·exact ⟨rfl, rfl, fun _ => rfl⟩
  ·rw [if_neg (by omega), if_neg (by omega), if_pos hk]
   refine gen _ (fun it _ => ?_)
   split
   ·rename_i e
    refine ⟨?_, ?_, fun e2 => absurd (by rw [<- e2]; simpa using e) (fun h : l = d.label => hdl h.symm)⟩
    ·unfold holdI
     split
     ·rfl
     ·split <;> rfl
    ·unfold holdI
     split
     ·rfl
     ·split <;> rfl
   ·exact ⟨rfl, rfl, fun _ => rfl⟩
 ·exact absurd hk h4
 ·exact absurd hk ho'.1
theorem Twin.own {n : Net} {nx : List NsC} {l : List UInt8} {bef : List Ded} {d : Ded} {h : Hst} {m : List Itm} (H : HsOk n nx bef d.time h) (hd : DedOk n bef d) (h4 : d.kind ≠ 4) (ho : ownB l d = true) (hlabs : ∀ x ∈ h.items, x.labs = [x.post.label])
  (hm : (l ∉ (h.items.map fun i => i.post.label) /\ m = []) ∨ ∃ x, x ∈ h.items /\ x.post.label = l /\ m = [x]) : Twin n nx l d.time (actR n nx h d) (actR n nx ⟨m, h.canc⟩ d) := by
 have gen : ∀ (f : Itm -> Itm) (g : Itm -> Itm) (canc : List Int), (∀ it ∈ h.items, (f it).post = it.post /\ (f it).labs = it.labs /\ (f it).stops ≠ [] /\ (it.post.label = l -> g it = f it)) -> Twin n nx l d.time ⟨h.items.map f, canc⟩ ⟨m.map g, canc⟩ := by
  intro f g canc hf
  refine ⟨rfl, fun x hx => ?_, ?_⟩
  ·obtain ⟨it, hi, rfl⟩ := List.mem_map.1 hx
   rw [(hf it hi).1, (hf it hi).2.1]
   exact hlabs it hi
  ·have e : ((h.items.map f).map fun i => i.post.label) = h.items.map fun i => i.post.label := by
    rw [List.map_map]
    exact List.map_congr_left (fun it hi => by show (f it).post.label = _; rw [(hf it hi).1])
   rcases hm with ⟨a1, a2⟩ | ⟨x, hx, e1, e2⟩
   ·exact .inl ⟨by show l ∉ ((h.items.map f).map fun i => i.post.label); rw [e]; exact a1, by rw [a2]; rfl⟩
   ·obtain ⟨b1, b2, b3, b4⟩ := hf x hx
    exact .inr ⟨f x, f x, List.mem_map.2 ⟨x, hx, rfl⟩, by rw [b1]; exact e1, by rw [e2]; show [g x] = _; rw [b4 e1], b3, rfl, rfl, .inl rfl⟩
 have hne : ∀ it ∈ h.items, it.stops ≠ [] := fun it hi => path_ne (H.item it hi).path
 have hto : ∀ it ∈ h.items, it.post.label = l -> toOf m it = toOf h.items it := fun it hi e => by
  rcases hm with ⟨a1, a2⟩ | ⟨x, hx, e1, e2⟩
  ·exact absurd (List.mem_map.2 ⟨it, hi, e⟩) a1
  ·have : it = x := nodup_inj H.nodup hi hx (by rw [e, e1])
   subst this
   rw [e2, toOf_self (hlabs it hi), toOf_one H.nodup hi (hlabs it hi)]
 rcases hd with ⟨hk, hl, hnew, hfr, hto2, hcl, hacc⟩ | ⟨hk, hl⟩ | ⟨hk, -⟩ | ⟨hk, -⟩
 ·have hdl : d.post.label = l := by
   unfold ownB at ho
   simpa [hk] using ho
  have hnl : l ∉ (h.items.map fun i => i.post.label) := by rw [H.labels, <- hdl]; exact hnew
  have hm0 : m = [] := by
   rcases hm with ⟨-, a2⟩ | ⟨x, hx, e1, -⟩
   ·exact a2
   ·exact absurd (List.mem_map.2 ⟨x, hx, e1⟩) hnl
  subst hm0
  unfold actR
  rw [if_pos hk, if_pos hk]
  refine ⟨rfl, fun x hx => ?_, .inr ⟨decideI n nx h.canc d.post.dst (newI d.post), _, List.mem_append_right _ (List.mem_singleton.2 rfl), hdl, rfl, by unfold decideI newI; simp, rfl, rfl, .inl rfl⟩⟩
  rcases List.mem_append.1 hx with hx | hx
  ·exact hlabs x hx
  ·rw [List.mem_singleton.1 hx]
   rfl
 ·unfold actR
  rcases hk with hk | hk
  ·rw [if_neg (by omega), if_pos hk, if_neg (by omega), if_pos hk]
   refine gen _ _ h.canc (fun it hi => ?_)
   split
   ·exact ⟨rfl, rfl, hne it hi, fun e => by dsimp only; rw [hto it hi e]⟩
   ·exact ⟨rfl, rfl, hne it hi, fun _ => rfl⟩
  ·rw [if_neg (by omega), if_neg (by omega), if_pos hk, if_neg (by omega), if_neg (by omega), if_pos hk]
   refine gen _ _ h.canc (fun it hi => ?_)
   split
   ·refine ⟨?_, ?_, ?_, fun _ => rfl⟩
    ·unfold holdI
     split
     ·rfl
     ·split <;> rfl
    ·unfold holdI
     split
     ·rfl
     ·split <;> rfl
    ·unfold holdI
     split
     ·exact hne it hi
     ·split <;> exact hne it hi
   ·exact ⟨rfl, rfl, hne it hi, fun _ => rfl⟩
 ·exact absurd hk h4
 ·unfold actR
  rw [if_neg (by omega), if_neg (by omega), if_neg (by omega), if_neg (by omega), if_neg (by omega), if_neg (by omega), if_neg (by omega), if_neg (by omega)]
  refine gen _ _ (d.line :: h.canc) (fun it hi => ?_)
  split
  ·exact ⟨rfl, rfl, hne it hi, fun _ => rfl⟩
  ·exact ⟨rfl, rfl, hne it hi, fun _ => rfl⟩
theorem twin_acts {n : Net} {nx : List NsC} (hG : Good n) (hF : Formed n nx) {l : List UInt8} : ∀ {ds bef : List Ded} {t : Int} {h a g : Hst}, actsF n nx ds h = some a -> DedsOk n bef t ds -> (∀ d ∈ ds, d.kind ≠ 4) -> 0 <= t -> t <= 1000000 -> HsOk n nx bef t h -> Twin n nx l t h g ->
  ∃ u b, u <= 1000000 /\ actsF n nx (ds.filter (ownB l)) g = some b /\ HsOk n nx (bef ++ ds) u a /\ Twin n nx l u a b
 | [], bef, t, h, a, g, hr, _, _, _, ht, H, T => by
  cases hr
  rw [List.append_nil]
  exact ⟨t, g, ht, rfl, H, T⟩
 | d :: ds, bef, t, h, a, g, hr, hd, h4, h0, ht, H, T => by
  rw [actsF] at hr
  obtain ⟨d1, d2, d3, d4⟩ := hd
  have h4d := h4 d (List.mem_cons_self ..)
  have h4r : ∀ e ∈ ds, e.kind ≠ 4 := fun e he => h4 e (List.mem_cons_of_mem _ he)
  cases hp : procF n nx h.canc d.time h.items h.items with
  | none => rw [hp] at hr; cases hr
  | some m =>
   rw [hp] at hr
   obtain ⟨HB, -⟩ := H.proc hG hF d1 hp
   obtain ⟨TB, hown⟩ := T.proc H d1 hp
   have HA := HB.act d3 (by omega) d2
   rw [List.filter_cons]
   by_cases ho : ownB l d = true
   ·rw [if_pos ho]
    have hTo : ∃ m2, procF n nx g.canc d.time g.items g.items = some m2 /\ ((l ∉ (m.map fun i => i.post.label) /\ m2 = []) ∨ ∃ x, x ∈ m /\ x.post.label = l /\ m2 = [x]) := by
     rcases hown with ⟨b1, -, b3⟩ | ⟨x', b1, b2, b3⟩
     ·exact ⟨[], b3, .inl ⟨b1, rfl⟩⟩
     ·exact ⟨[x'], b3, .inr ⟨x', b1, b2, rfl⟩⟩
    obtain ⟨m2, hm2, hc⟩ := hTo
    have TA := Twin.own (h := ⟨m, h.canc⟩) HB d3 h4d ho TB.labs hc
    rw [actsF, hm2]
    have := twin_acts hG hF (l := l) hr d4 h4r (by omega) d2 HA TA
    rw [List.append_assoc] at this
    obtain ⟨u, b, b1, b2, b3, b4⟩ := this
    exact ⟨u, b, b1, by rw [T.canc]; exact b2, b3, b4⟩
   ·rw [if_neg ho]
    have TA := TB.other d3 h4d ho
    have := twin_acts hG hF (l := l) hr d4 h4r (by omega) d2 HA TA
    rwa [List.append_assoc] at this
theorem labs_one {n : Net} {nx : List NsC} (hG : Good n) (hF : Formed n nx) {ds : List Ded} {h : Hst} (hr : runR n nx ds = some h) (hd : DedsOk n [] 0 ds) (h4 : ∀ d ∈ ds, d.kind ≠ 4) : ∀ it ∈ h.items, it.labs = [it.post.label] /\ it.since = [it.post.acc] := by
 intro it hi
 obtain ⟨H, -⟩ := run_ok hG hF hr hd
 unfold runR at hr
 rw [runF_acts] at hr
 obtain ⟨a, ha, hr⟩ := Option.bind_eq_some_iff.1 hr
 obtain ⟨l, hl, rfl⟩ := Option.map_eq_some_iff.1 hr
 obtain ⟨u, b, hu, hb, HA, T⟩ := twin_acts hG hF (l := it.post.label) ha hd h4 (by omega) (by omega) (hs_nil n nx) ⟨rfl, fun x hx => (by cases hx), .inl ⟨by simp, rfl⟩⟩
 obtain ⟨x, hx, hm⟩ := procF_back hl hi
 have hs := move_same hm
 have h1 : it.labs = [it.post.label] := by rw [hs.labs, hs.post]; exact T.labs x hx
 have h2 := H.item it hi
 have h3 := (H.time it hi).head
 refine ⟨h1, ?_⟩
 have h5 := h2.labs.1
 rw [h1] at h5
 cases hsi : it.since with
 | nil => rw [hsi] at h5; simp at h5
 | cons c m =>
  rw [hsi] at h3 h5
  cases m with
  | nil => cases h3; rfl
  | cons _ _ => simp at h5
section
attribute [local go_sem] Oper.semAt_some
theorem labelAt_any (t : Trk) (time : Int) (w : World) (hT : TrkIn w t) (hs : t.Short) (hl : t.since.length = t.labs.length) :
  Calls Tryz.prog 16 #[trkV t, iV time] w fun e w' => e = .returned (sV (labAt time t.since t.labs [])) /\ Below w.heap.size w w' := by
 have HT := Lib.hid hT
 have HL := Lib.hid hl
 have hs1 := hs.2.1
 have hs2 := hs.2.2.1
 clear hT hs hl
 go_enter Tryz.func16, Tryz.ntmps16
 go_upto_region 1 with fail
 have hb5 := ba w (trkO t)
 have hg5 := heap_alloc_new w (trkO t)
 change Code.wp _ _ _ _ (w.alloc (trkO t))
 generalize w.alloc (trkO t) = V1 at *
 have HW : Hid (Below w.heap.size w V1) := hb5
 generalize w.heap.size = X at hb5 hg5 ⊢
 have HC : Hid (∀ V, Below V1.heap.size V1 V -> V.cell? ⟨X, 7, none⟩ = some (.slice t.nA t.since.length t.nC) /\ V.cell? ⟨X, 8, none⟩ = some (.slice t.lA t.labs.length t.lC)) := fun V hb => by
  have k0 := (hb.block _ (block_lt hg5)).trans hg5
  exact ⟨cell_of_row _ _ 7 _ _ _ k0, cell_of_row _ _ 8 _ _ _ k0⟩
 clear hb5 hg5
 go_wp2_with fail
 go_loopw [5, 6] (fun s i wr => ∃ k : Nat, k <= t.since.length /\ i = iV k /\ s = sV (labAt time (t.since.take k) (t.labs.take k) []) /\ Hid (Below V1.heap.size V1 wr)) (fun _ i _ => t.since.length + 1 - (intOf i).toNat)
 case atStart => exact ⟨0, Nat.zero_le _, rfl, rfl, Lib.hid (Below.refl _ _)⟩
 case round =>
 obtain ⟨k, hk, rfl, rfl, HB⟩ := hrel
 have k0 : (0 : Int) <= (k : Int) := by omega
 obtain ⟨c7, c8⟩ := HC.out wr HB.out
 by_cases hlt : k < t.since.length
 case neg =>
  have k1 : ¬ (k : Int) < (t.since.length : Int) := by omega
  have HK : Hid (k = t.since.length) := by show k = t.since.length; omega
  clear hk hlt
  go_wp2_with fail
  go_ret
  refine ⟨?_, HW.out.trans (HB.out.mono HW.out.size)⟩
  rw [HK.out, List.take_length, HL.out, List.take_length]
  rfl
 have HLT := Lib.hid hlt
 have k1 : (k : Int) < (t.since.length : Int) := by omega
 have k2 : (k : Int) < (t.labs.length : Int) := by have := HL.out; omega
 obtain ⟨u, hu⟩ : ∃ u, t.since[k]? = some u := ⟨_, List.getElem?_eq_getElem hlt⟩
 obtain ⟨l, hl⟩ : ∃ l, t.labs[k]? = some l := ⟨_, List.getElem?_eq_getElem (by have := HL.out; omega)⟩
 obtain ⟨ab, ao, hA, -, hac⟩ := (HT.out.si.below (HW.out.trans (HB.out.mono HW.out.size))).get (i := k) (by simpa using hlt)
 obtain ⟨bb, bo, hB, -, hbc⟩ := (HT.out.la.below (HW.out.trans (HB.out.mono HW.out.size))).get (i := k) (by have := HL.out; simp; omega)
 have x0 : wr.cell? ⟨ab, ao + k, none⟩ = some (iV u) := hac k _ (by rw [List.getElem?_map, hu]; rfl)
 have y0 : wr.cell? ⟨bb, bo + k, none⟩ = some (sV l) := hbc k _ (by rw [List.getElem?_map, hl]; rfl)
 have HS : Hid (labAt time (t.since.take (k + 1)) (t.labs.take (k + 1)) [] = if u <= time then l else labAt time (t.since.take k) (t.labs.take k) []) := by
  show _ = _
  rw [List.take_add_one, hu, List.take_add_one, hl]
  exact labAt_snoc _ _ _ _ _ _ (by have := HL.out; simp; omega)
 rw [hA] at c7
 rw [hB] at c8
 clear hac hbc hu hl hA hB hlt
 by_cases hle : u <= time
 ·have HLE := Lib.hid hle
  go_wp2_with fail
  go_roundw
  case rel => exact ⟨k + 1, HLT.out, by go_num, by rw [HS.out, if_pos HLE.out], HB⟩
  case measure => have := HLT.out; simp [intOf]; omega
 ·have HLE := Lib.hid hle
  go_wp2_with fail
  go_roundw
  case rel => exact ⟨k + 1, HLT.out, by go_num, by rw [HS.out, if_neg HLE.out], HB⟩
  case measure => have := HLT.out; simp [intOf]; omega
end
end Go.Proofs.YtpeaiphdkgifaaaGreatDoor
