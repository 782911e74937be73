/- Two items turn at once, in memory. How items leave, one step after -/
import Derived.Test.YtpeaiphdkgifaaaGreatDoorVaz
import Derived.Test.YtpeaiphdkgifaaaGreatDoorVax
namespace Go.Proofs.YtpeaiphdkgifaaaGreatDoor
open Go.RowKit
set_option maxHeartbeats 20000000
set_option maxRecDepth 100000
theorem ki {α : Type} {f : α -> List Nat} {l : List α} {k : Nat} {a : α} (h : l[k]? = some a) : ∃ r : List Nat, (l.flatMap f).Perm (f a ++ r) /\ ∀ a', ((l.set k a').flatMap f).Perm (f a' ++ r) := by
 have hkl := (aE.1 h).1
 obtain ⟨s, t, rfl, hs⟩ : ∃ s t, l = s ++ a :: t /\ s.length = k := ⟨l.take k, l.drop (k + 1), by
  rw [<- (aE.1 h).2, <- List.drop_eq_getElem_cons hkl, List.take_append_drop], by simp; omega⟩
 refine ⟨s.flatMap f ++ t.flatMap f, ?_, fun a' => ?_⟩
 ·simp only [List.flatMap_append, List.flatMap_cons]
  exact List.perm_append_comm_assoc _ _ _
 ·have e : (s ++ a :: t).set k a' = s ++ a' :: t := by rw [<- hs]; simp
  rw [e]
  simp only [List.flatMap_append, List.flatMap_cons]
  exact List.perm_append_comm_assoc _ _ _
theorem rx {α : Type} {f : α -> List Nat} {l : List α} {k j : Nat} {a b a' b' : α} {P : List Nat} {sz : Nat} (hn : (P ++ l.flatMap f).Nodup) (hk : l[k]? = some a) (hj : l[j]? = some b) (hkj : k ≠ j) (hlt : ∀ x ∈ P ++ l.flatMap f, x < sz) (ha : ∀ x ∈ f a', x ∈ f a ∨ sz <= x) (hb : ∀ x ∈ f b', x ∈ f b ∨ sz <= x) (hnd : (f a' ++ f b').Nodup) :
  (P ++ ((l.set k a').set j b').flatMap f).Nodup := by
 have hj' : (l.set k a')[j]? = some b := by rw [List.getElem?_set, if_neg hkj]; exact hj
 obtain ⟨r1, p1, p2⟩ := ki (f := f) hj
 have hk' : (l.set j b')[k]? = some a := by rw [List.getElem?_set, if_neg (fun e => hkj e.symm)]; exact hk
 obtain ⟨r2, q1, q2⟩ := ki (f := f) hk'
 have e : (l.set k a').set j b' = (l.set j b').set k a' := List.set_comm _ _ hkj
 -- r1 holds f a, r2 holds f b'
 have h1 := (p2 b').symm.trans q1
 -- f b' ++ r1 ~ f a ++ r2
 obtain ⟨s, hs1, hs2⟩ : ∃ s, r1.Perm (f a ++ s) /\ r2.Perm (f b' ++ s) := by
  obtain ⟨r3, z1, z2⟩ := ki (f := fun x => x) (l := l.map f) (k := j) (a := f b) (by rw [aS, hj]; rfl)
  obtain ⟨s', t', hl, hs'⟩ : ∃ s' t', l = s' ++ b :: t' /\ s'.length = j := ⟨l.take j, l.drop (j + 1), by
   have hjl := (aE.1 hj).1
   rw [<- (aE.1 hj).2, <- List.drop_eq_getElem_cons hjl, List.take_append_drop], by have hjl := (aE.1 hj).1; simp; omega⟩
  have hm : (s' ++ t')[if k < j then k else k - 1]? = some a := by
   rw [hl] at hk
   by_cases hkl : k < j
   ·rw [if_pos hkl]
    rw [List.getElem?_append_left (by omega)] at hk ⊢
    exact hk
   ·rw [if_neg hkl]
    rw [List.getElem?_append_right (by omega)] at hk ⊢
    rw [hs'] at hk ⊢
    obtain ⟨m, hm⟩ : ∃ m, k - j = m + 1 := ⟨k - j - 1, by omega⟩
    rw [hm] at hk
    have : k - 1 - j = m := by omega
    rw [this]
    simpa using hk
  obtain ⟨s, w1, -⟩ := ki (f := f) hm
  have hr1 : (f b ++ r1).Perm (f b ++ (s' ++ t').flatMap f) := by
   refine p1.symm.trans ?_
   rw [hl]
   simp only [List.flatMap_append, List.flatMap_cons]
   exact List.perm_append_comm_assoc _ _ _
  have hr1' := (List.perm_append_left_iff _).1 hr1
  refine ⟨s, hr1'.trans w1, ?_⟩
  have h2 : (f a ++ r2).Perm (f a ++ (f b' ++ s)) := by
   refine h1.symm.trans ?_
   refine ((List.perm_append_left_iff _).2 (hr1'.trans w1)).trans ?_
   exact List.perm_append_comm_assoc _ _ _
  exact (List.perm_append_left_iff _).1 h2
 have hfull : (((l.set k a').set j b').flatMap f).Perm (f a' ++ (f b' ++ s)) := by
  rw [e]
  exact (q2 a').trans ((List.perm_append_left_iff _).2 hs2)
 have hold : (l.flatMap f).Perm (f b ++ (f a ++ s)) := p1.trans ((List.perm_append_left_iff _).2 hs1)
 have hn' := ((List.perm_append_left_iff P).2 hold).nodup_iff.1 hn
 rw [((List.perm_append_left_iff P).2 hfull).nodup_iff]
 obtain ⟨n1, n2, n3⟩ := List.nodup_append.1 hn'
 obtain ⟨n4, n5, n6⟩ := List.nodup_append.1 n2
 obtain ⟨n7, n8, n9⟩ := List.nodup_append.1 n5
 obtain ⟨d1, d2, d3⟩ := List.nodup_append.1 hnd
 have hs9 : ∀ x ∈ s, x < sz := fun x hx => hlt x (aP _ (hold.mem_iff.2 (aP _ (aP _ hx))))
 have hP9 : ∀ x ∈ P, x < sz := fun x hx => hlt x (aQ _ hx)
 refine List.nodup_append.2 ⟨n1, List.nodup_append.2 ⟨d1, List.nodup_append.2 ⟨d2, n8, fun x hx y hy e => ?_⟩, fun x hx y hy e => ?_⟩, fun x hx y hy e => ?_⟩
 ·subst e
  rcases hb x hx with h | h
  ·exact n6 x h x (aP _ hy) rfl
  ·have := hs9 x hy; omega
 ·subst e
  rcases List.mem_append.1 hy with hy | hy
  ·exact d3 x hx x hy rfl
  ·rcases ha x hx with h | h
   ·exact n9 x h x hy rfl
   ·have := hs9 x hy; omega
 ·subst e
  rcases List.mem_append.1 hy with hy | hy
  ·rcases ha x hy with h | h
   ·exact n3 x hx x (aP _ (aQ _ h)) rfl
   ·have := hP9 x hx; omega
  ·rcases List.mem_append.1 hy with hy | hy
   ·rcases hb x hy with h | h
    ·exact n3 x hx x (aQ _ h) rfl
    ·have := hP9 x hx; omega
   ·exact n3 x hx x (aP _ (aP _ hy)) rfl
structure Two (base : Nat) (W W' : World) (a b a' b' : ItA) (it' jt' : Itm) : Prop where
 ina : cD base W' it' a'
 inb : cD base W' jt' b'
 chg : bz (a.blks ++ b.blks) W W'
 newa : ∀ x ∈ a'.blks, x ∈ a.blks ∨ W.heap.size <= x
 newb : ∀ x ∈ b'.blks, x ∈ b.blks ∨ W.heap.size <= x
 nodup : (a'.blks ++ b'.blks).Nodup
 sa : a'.b = a.b
 sb : b'.b = b.b
theorem Two.trans {base : Nat} {W W' W'' : World} {a b a' b' a'' b'' : ItA} {it' jt' it'' jt'' : Itm} (h : Two base W W' a b a' b' it' jt') (k : Two base W' W'' a' b' a'' b'' it'' jt'') : Two base W W'' a b a'' b'' it'' jt'' := by
 have hs := h.chg.size
 refine ⟨k.ina, k.inb, h.chg.trans k.chg (fun x hx => ?_), fun x hx => ?_, fun x hx => ?_, k.nodup, k.sa.trans h.sa, k.sb.trans h.sb⟩
 ·rcases List.mem_append.1 hx with hx | hx
  ·rcases h.newa x hx with e | e
   ·exact .inl (aQ _ e)
   ·exact .inr e
  ·rcases h.newb x hx with e | e
   ·exact .inl (aP _ e)
   ·exact .inr e
 ·rcases k.newa x hx with e | e
  ·exact h.newa x e
  ·exact .inr (by omega)
 ·rcases k.newb x hx with e | e
  ·exact h.newb x e
  ·exact .inr (by omega)
theorem fM.upd2 {base : Nat} {W W' : World} {n : Net} {nxA : Option Addr} {nxL nxC : Nat} {h : Hst} {A : HsA} (H : fM base W n nxA nxL nxC h A) {p q : Nat} {it jt it' jt' : Itm} {a b a' b' : ItA} (h1 : h.items[p]? = some it) (h2 : A.its[p]? = some a) (k1 : h.items[q]? = some jt) (k2 : A.its[q]? = some b) (hpq : p ≠ q) (hs : Two base W W' a b a' b' it' jt') (hp : it'.post = it.post) (hq : jt'.post = jt.post) :
  fM base W' n nxA nxL nxC { h with items := (h.items.set p it').set q jt' } { A with its := (A.its.set p a').set q b' } := by
 have hmem : ∀ x ∈ a.blks ++ b.blks, x ∈ A.its.flatMap ItA.blks := fun x hx => by
  rcases List.mem_append.1 hx with hx | hx
  ·exact List.mem_flatMap.2 ⟨a, aF h2, hx⟩
  ·exact List.mem_flatMap.2 ⟨b, aF k2, hx⟩
 have hown : ∀ x ∈ A.own, x ∉ a.blks ++ b.blks := fun x hx hx2 => (List.nodup_append.1 H.nodup).2.2 x hx x (hmem x hx2) rfl
 have hpw := (List.pairwise_flatMap.1 (List.nodup_append.1 H.nodup).2.1).2
 have far : ∀ (i j : Nat) (x y : ItA), i ≠ j -> A.its[i]? = some x -> A.its[j]? = some y -> ∀ z ∈ x.blks, z ∉ y.blks := fun i j x y hij hx hy z hz hz2 => by
  obtain ⟨g1, rfl⟩ := aE.1 hx
  obtain ⟨g2, rfl⟩ := aE.1 hy
  rcases Nat.lt_or_gt_of_ne hij with hlt | hlt
  ·exact List.pairwise_iff_getElem.1 hpw i j g1 g2 hlt z hz z hz2 rfl
  ·exact List.pairwise_iff_getElem.1 hpw j i g2 g1 hlt z hz2 z hz rfl
 have hoth : ∀ i x, i ≠ p -> i ≠ q -> A.its[i]? = some x -> ∀ z ∈ x.blks, z ∉ a.blks ++ b.blks := fun i x hip hiq hx z hz hz2 => by
  rcases List.mem_append.1 hz2 with hz2 | hz2
  ·exact far i p x a hip hx h2 z hz hz2
  ·exact far i q x b hiq hx k2 z hz hz2
 have hptr : ((A.its.set p a').set q b').map (fun a => Value.pointer (some (aV a.b 0))) = A.its.map fun a => Value.pointer (some (aV a.b 0)) := by
  apply List.ext_getElem?
  intro i
  rw [aS, aS, List.getElem?_set, List.length_set]
  by_cases hiq : q = i
  ·subst hiq
   rw [if_pos rfl, if_pos (aE.1 k2).1, k2]
   simp [hs.sb]
  ·rw [if_neg hiq, List.getElem?_set]
   by_cases hip : p = i
   ·subst hip
    rw [if_pos rfl, if_pos (aE.1 h2).1, h2]
    simp [hs.sa]
   ·rw [if_neg hip]
 have hz : ∀ (l : List UInt8) (xs : List Itm) (ys : List ItA) (j : Nat) (x v : Itm) (y u : ItA), xs[j]? = some x -> ys[j]? = some y -> x.post = v.post -> u.b = y.b -> (((xs.set j v).zip (ys.set j u)).find? fun p => p.1.post.label == l).map (fun p => Value.pointer (some (aV p.2.b 0))) = ((xs.zip ys).find? fun p => p.1.post.label == l).map fun p => Value.pointer (some (aV p.2.b 0)) := by
  intro l xs
  induction xs with
  | nil => intro ys j x v y u hx; simp at hx
  | cons z xs ih =>
   intro ys j x v y u hx hy hpo hb
   cases ys with
   | nil => simp at hy
   | cons w ys =>
    cases j with
    | zero =>
     simp at hx hy
     subst hx hy
     simp only [List.set_cons_zero, List.zip_cons_cons, List.find?_cons, <- hpo]
     split
     ·simp [hb]
     ·rfl
    | succ j =>
     simp only [List.set_cons_succ, List.zip_cons_cons, List.find?_cons]
     split
     ·rfl
     ·exact ih ys j x v y u hx hy hpo hb
 have hnam : jU ((h.items.set p it').set q jt') ((A.its.set p a').set q b') = jU h.items A.its := by
  funext l
  unfold jU
  rw [hz l (h.items.set p it') (A.its.set p a') q jt jt' b b' (by rw [List.getElem?_set, if_neg hpq]; exact k1) (by rw [List.getElem?_set, if_neg hpq]; exact k2) hq.symm hs.sb]
  exact hz l h.items A.its p it it' a a' h1 h2 hp.symm hs.sa
 obtain ⟨m, hm⟩ := H.can
 refine ⟨?_, H.ge, by simp [H.len], ?_, ?_, ⟨m, hm.kept (hs.chg.block _ hm.lt (hown _ (by simp [HsA.own])))⟩, ⟨H.act.1, (hs.chg.block _ (aa H.act.2) (hown _ (by simp [HsA.own]))).trans H.act.2⟩, ⟨H.act2.1, (hs.chg.block _ (aa H.act2.2) (hown _ (by simp [HsA.own]))).trans H.act2.2⟩, fun i x y hx hy => ?_, ?_⟩
 ·have := (hs.chg.block _ (aa H.blk) (hown _ (by simp [HsA.own]))).trans H.blk
  simpa using this
 ·have := cx H.row hs.chg (fun b hb => hown b (by
   cases he : A.iB with
   | none => rw [he] at hb; cases hb
   | some x => rw [he] at hb; cases hb; simp [HsA.own, he]))
  simp only [List.length_set]
  rw [hptr]
  exact this
 ·have := H.nam.kept (hs.chg.block _ H.nam.lt (hown _ (by simp [HsA.own])))
  simp only [List.length_set]
  rw [hnam]
  exact this
 ·simp only at hx hy
  rw [List.getElem?_set, List.length_set] at hx hy
  by_cases hiq : q = i
  ·subst hiq
   rw [if_pos rfl, if_pos (aE.1 k1).1] at hx
   rw [if_pos rfl, if_pos (aE.1 k2).1] at hy
   cases hx
   cases hy
   exact hs.inb
  ·rw [if_neg hiq, List.getElem?_set] at hx hy
   by_cases hip : p = i
   ·subst hip
    rw [if_pos rfl, if_pos (aE.1 h1).1] at hx
    rw [if_pos rfl, if_pos (aE.1 h2).1] at hy
    cases hx
    cases hy
    exact hs.ina
   ·rw [if_neg hip] at hx hy
    exact (H.item i x y hx hy).chg hs.chg (hoth i y (fun e => hip e.symm) (fun e => hiq e.symm) hy)
 ·exact rx (P := A.own) H.nodup h2 k2 hpq (fun b hb => (H.lt b hb).2) hs.newa hs.newb hs.nodup
theorem WdH.upd2 {w W W' : World} {n : Net} {nx : List NsC} {nxA : Option Addr} {nxC : Nat} {h : Hst} {A : HsA} (H : WdH w W n nx nxA nxC h A) {p q : Nat} {it jt it' jt' : Itm} {a b a' b' : ItA} (h1 : h.items[p]? = some it) (h2 : A.its[p]? = some a) (k1 : h.items[q]? = some jt) (k2 : A.its[q]? = some b) (hpq : p ≠ q) (hs : Two w.heap.size W W' a b a' b' it' jt') (hp : it'.post = it.post) (hq : jt'.post = jt.post) :
  WdH w W' n nx nxA nxC { h with items := (h.items.set p it').set q jt' } { A with its := (A.its.set p a').set q b' } :=
 ⟨H.old, H.hs.upd2 h1 h2 k1 k2 hpq hs hp hq, H.bel.trans (hs.chg.below H.bel.size (fun x hx => by
  rcases List.mem_append.1 hx with hx | hx
  ·exact ((H.hs.blks h2).2.1 x hx).1
  ·exact ((H.hs.blks k2).2.1 x hx).1))⟩
structure pc (base : Nat) (W V : World) (e : TypeId) (s1 s2 g1 c1 g2 c2 n1 n2 : Nat) (xs ys : List Value) : Prop where
 r1 : V.ownsRow base e 1 (.slice (some (aV g1 0)) n1 c1) n1 xs
 r2 : V.ownsRow base e 1 (.slice (some (aV g2 0)) n2 c2) n2 ys
 a1 : g1 = s1 ∨ W.heap.size <= g1
 a2 : g2 = s2 ∨ W.heap.size <= g2
 ne : g1 ≠ g2
 chg : bz [s1, s2] W V
theorem lX {a b : ItA} (h : (a.blks ++ b.blks).Nodup) : (a.b ≠ a.sB /\ a.b ≠ a.nB /\ a.b ≠ a.lB /\ a.sB ≠ a.nB /\ a.sB ≠ a.lB /\ a.nB ≠ a.lB) /\ (b.b ≠ b.sB /\ b.b ≠ b.nB /\ b.b ≠ b.lB /\ b.sB ≠ b.nB /\ b.sB ≠ b.lB /\ b.nB ≠ b.lB) /\
  ((a.b ≠ b.b /\ a.b ≠ b.sB /\ a.b ≠ b.nB /\ a.b ≠ b.lB) /\ (a.sB ≠ b.b /\ a.sB ≠ b.sB /\ a.sB ≠ b.nB /\ a.sB ≠ b.lB) /\ (a.nB ≠ b.b /\ a.nB ≠ b.sB /\ a.nB ≠ b.nB /\ a.nB ≠ b.lB) /\ (a.lB ≠ b.b /\ a.lB ≠ b.sB /\ a.lB ≠ b.nB /\ a.lB ≠ b.lB)) /\
  (∀ x, a.eA.map (·.block) = some x -> x ≠ a.b /\ x ≠ a.sB /\ x ≠ a.nB /\ x ≠ a.lB /\ x ≠ b.b /\ x ≠ b.sB /\ x ≠ b.nB /\ x ≠ b.lB) /\ (∀ x, b.eA.map (·.block) = some x -> x ≠ a.b /\ x ≠ a.sB /\ x ≠ a.nB /\ x ≠ a.lB /\ x ≠ b.b /\ x ≠ b.sB /\ x ≠ b.nB /\ x ≠ b.lB) /\
  (∀ x y, a.eA.map (·.block) = some x -> b.eA.map (·.block) = some y -> x ≠ y) := by
 unfold ItA.blks at h
 obtain ⟨h1, h2, h3⟩ := List.nodup_append.1 h
 obtain ⟨p1, -, p3⟩ := List.nodup_append.1 h1
 obtain ⟨q1, -, q3⟩ := List.nodup_append.1 h2
 have m : ∀ (c : ItA) x, c.eA.map (·.block) = some x -> x ∈ (c.eA.map (·.block)).toList := fun c x hx => by rw [hx]; simp
 have cross : ∀ x ∈ [a.b, a.sB, a.nB, a.lB], ∀ y ∈ [b.b, b.sB, b.nB, b.lB], x ≠ y := fun x hx y hy => h3 x (aQ _ hx) y (aQ _ hy)
 have pr : ∀ {x y z v : Nat}, [x, y, z, v].Nodup -> x ≠ y /\ x ≠ z /\ x ≠ v /\ y ≠ z /\ y ≠ v /\ z ≠ v := fun {x y z v} h => by
  simp at h
  exact ⟨h.1.1, h.1.2.1, h.1.2.2, h.2.1.1, h.2.1.2, h.2.2⟩
 refine ⟨pr p1, pr q1, ⟨⟨cross _ (by simp) _ (by simp), cross _ (by simp) _ (by simp), cross _ (by simp) _ (by simp), cross _ (by simp) _ (by simp)⟩, ⟨cross _ (by simp) _ (by simp), cross _ (by simp) _ (by simp), cross _ (by simp) _ (by simp), cross _ (by simp) _ (by simp)⟩, ⟨cross _ (by simp) _ (by simp), cross _ (by simp) _ (by simp), cross _ (by simp) _ (by simp), cross _ (by simp) _ (by simp)⟩, ⟨cross _ (by simp) _ (by simp), cross _ (by simp) _ (by simp), cross _ (by simp) _ (by simp), cross _ (by simp) _ (by simp)⟩⟩, fun x hx => ?_, fun x hx => ?_, fun x y hx hy => h3 x (aP _ (m a x hx)) y (aP _ (m b y hy))⟩
 ·have g1 : ∀ y ∈ [a.b, a.sB, a.nB, a.lB], x ≠ y := fun y hy e => p3 y hy x (m a x hx) e.symm
  have g2 : ∀ y ∈ [b.b, b.sB, b.nB, b.lB], x ≠ y := fun y hy => h3 x (aP _ (m a x hx)) y (aQ _ hy)
  exact ⟨g1 _ (by simp), g1 _ (by simp), g1 _ (by simp), g1 _ (by simp), g2 _ (by simp), g2 _ (by simp), g2 _ (by simp), g2 _ (by simp)⟩
 ·have g1 : ∀ y ∈ [b.b, b.sB, b.nB, b.lB], x ≠ y := fun y hy e => q3 y hy x (m b x hx) e.symm
  have g2 : ∀ y ∈ [a.b, a.sB, a.nB, a.lB], x ≠ y := fun y hy e => h3 y (aQ _ hy) x (aP _ (m b x hx)) e.symm
  exact ⟨g2 _ (by simp), g2 _ (by simp), g2 _ (by simp), g2 _ (by simp), g1 _ (by simp), g1 _ (by simp), g1 _ (by simp), g1 _ (by simp)⟩
theorem sK {a b : ItA} (n1 : a.b ≠ a.sB /\ a.b ≠ a.nB /\ a.b ≠ a.lB /\ a.sB ≠ a.nB /\ a.sB ≠ a.lB /\ a.nB ≠ a.lB) (n2 : b.b ≠ b.sB /\ b.b ≠ b.nB /\ b.b ≠ b.lB /\ b.sB ≠ b.nB /\ b.sB ≠ b.lB /\ b.nB ≠ b.lB)
  (n3 : (a.b ≠ b.b /\ a.b ≠ b.sB /\ a.b ≠ b.nB /\ a.b ≠ b.lB) /\ (a.sB ≠ b.b /\ a.sB ≠ b.sB /\ a.sB ≠ b.nB /\ a.sB ≠ b.lB) /\ (a.nB ≠ b.b /\ a.nB ≠ b.sB /\ a.nB ≠ b.nB /\ a.nB ≠ b.lB) /\ (a.lB ≠ b.b /\ a.lB ≠ b.sB /\ a.lB ≠ b.nB /\ a.lB ≠ b.lB))
  (n4 : ∀ x, a.eA.map (·.block) = some x -> x ≠ a.b /\ x ≠ a.sB /\ x ≠ a.nB /\ x ≠ a.lB /\ x ≠ b.b /\ x ≠ b.sB /\ x ≠ b.nB /\ x ≠ b.lB) (n5 : ∀ x, b.eA.map (·.block) = some x -> x ≠ a.b /\ x ≠ a.sB /\ x ≠ a.nB /\ x ≠ a.lB /\ x ≠ b.b /\ x ≠ b.sB /\ x ≠ b.nB /\ x ≠ b.lB)
  (n6 : ∀ x y, a.eA.map (·.block) = some x -> b.eA.map (·.block) = some y -> x ≠ y) : (a.blks ++ b.blks).Nodup := by
 obtain ⟨⟨x11, x12, x13, x14⟩, ⟨x21, x22, x23, x24⟩, ⟨x31, x32, x33, x34⟩, ⟨x41, x42, x43, x44⟩⟩ := n3
 obtain ⟨a1, a2, a3, a4, a5, a6⟩ := n1
 obtain ⟨b1, b2, b3, b4, b5, b6⟩ := n2
 have m : ∀ (c : ItA) x, x ∈ (c.eA.map (·.block)).toList -> c.eA.map (·.block) = some x := fun c x hx => by simpa using hx
 have one : ∀ o : Option Nat, o.toList.Nodup := fun o => by cases o <;> simp
 unfold ItA.blks
 refine List.nodup_append.2 ⟨List.nodup_append.2 ⟨by simp; exact ⟨⟨a1, a2, a3⟩, ⟨a4, a5⟩, a6⟩, one _, fun x hx y hy e => ?_⟩, List.nodup_append.2 ⟨by simp; exact ⟨⟨b1, b2, b3⟩, ⟨b4, b5⟩, b6⟩, one _, fun x hx y hy e => ?_⟩, fun x hx y hy e => ?_⟩
 ·subst e
  obtain ⟨y1, y2, y3, y4, -⟩ := n4 x (m a x hy)
  simp at hx
  rcases hx with h | h | h | h
  ·exact y1 h
  ·exact y2 h
  ·exact y3 h
  ·exact y4 h
 ·subst e
  obtain ⟨-, -, -, -, y1, y2, y3, y4⟩ := n5 x (m b x hy)
  simp at hx
  rcases hx with h | h | h | h
  ·exact y1 h
  ·exact y2 h
  ·exact y3 h
  ·exact y4 h
 ·subst e
  rcases List.mem_append.1 hx with hx | hx
  ·rcases List.mem_append.1 hy with hy | hy
   ·simp at hx hy
    rcases hx with rfl | rfl | rfl | rfl
    ·rcases hy with h | h | h | h
     ·exact x11 h
     ·exact x12 h
     ·exact x13 h
     ·exact x14 h
    ·rcases hy with h | h | h | h
     ·exact x21 h
     ·exact x22 h
     ·exact x23 h
     ·exact x24 h
    ·rcases hy with h | h | h | h
     ·exact x31 h
     ·exact x32 h
     ·exact x33 h
     ·exact x34 h
    ·rcases hy with h | h | h | h
     ·exact x41 h
     ·exact x42 h
     ·exact x43 h
     ·exact x44 h
   ·obtain ⟨y1, y2, y3, y4, -⟩ := n5 x (m b x hy)
    simp at hx
    rcases hx with h | h | h | h
    ·exact y1 h
    ·exact y2 h
    ·exact y3 h
    ·exact y4 h
  ·rcases List.mem_append.1 hy with hy | hy
   ·obtain ⟨-, -, -, -, y1, y2, y3, y4⟩ := n4 x (m a x hx)
    simp at hy
    rcases hy with h | h | h | h
    ·exact y1 h
    ·exact y2 h
    ·exact y3 h
    ·exact y4 h
   ·exact n6 x x (m a x hx) (m b x hy) rfl
theorem cM {base : Nat} {V W' : World} {e : TypeId} {s n c g : Nat} {xs : List Value} (h : V.ownsRow base e s (.slice (some (aV g 0)) n c) n xs) (hk : W'.heap[g]? = V.heap[g]?) : W'.ownsRow base e s (.slice (some (aV g 0)) n c) n xs := by
 refine ⟨h.1, ?_⟩
 rcases h.2 with ⟨h2, -⟩ | ⟨k, cp, cur, h2, hb, hg, r⟩
 ·cases h2
 ·cases h2
  exact .inr ⟨g, c, cur, rfl, hb, hk.trans hg, r⟩
theorem kN {base : Nat} {V W' : World} {e : TypeId} {s n c : Nat} {A : Option Addr} {xs : List Value} (h : V.ownsRow base e s (.slice A n c) n xs) (hk : ∀ g, A.map (·.block) = some g -> W'.heap[g]? = V.heap[g]?) : W'.ownsRow base e s (.slice A n c) n xs := by
 refine ⟨h.1, ?_⟩
 rcases h.2 with h2 | ⟨k, cp, cur, h2, hb, hg, r⟩
 ·exact .inl h2
 ·cases h2
  exact .inr ⟨k, c, cur, rfl, hb, (hk k rfl).trans hg, r⟩
theorem Two.since {base : Nat} {W V : World} {it jt : Itm} {a b : ItA} {t : Int} {g1 c1 g2 c2 : Nat} (hi : cD base W it a) (hj : cD base W jt b) (hnd : (a.blks ++ b.blks).Nodup)
  (G : pc base W V 3 a.nB b.nB g1 c1 g2 c2 (it.since.length + 1) (jt.since.length + 1) (it.since.map iV ++ [iV t]) (jt.since.map iV ++ [iV t])) :
  Two base W ((V.setCell (aV a.b 7) (.slice (some (aV g1 0)) (it.since.length + 1) c1)).setCell (aV b.b 7) (.slice (some (aV g2 0)) (jt.since.length + 1) c2)) a b { a with nB := g1, nC := c1 } { b with nB := g2, nC := c2 } { it with since := it.since ++ [t] } { jt with since := jt.since ++ [t] } := by
 obtain ⟨⟨ab_s, ab_n, ab_l, as_n, as_l, an_l⟩, ⟨bb_s, bb_n, bb_l, bs_n, bs_l, bn_l⟩, ⟨⟨x11, x12, x13, x14⟩, ⟨x21, x22, x23, x24⟩, ⟨x31, x32, x33, x34⟩, ⟨x41, x42, x43, x44⟩⟩, n4, n5, n6⟩ := lX hnd
 obtain ⟨lv, l1, l2, l3⟩ := hi.cells
 obtain ⟨mv, m1, m2, m3⟩ := hj.cells
 have la : ∀ x ∈ a.blks, x < W.heap.size := fun x hx => (hi.lt x hx).2
 have lb : ∀ x ∈ b.blks, x < W.heap.size := fun x hx => (hj.lt x hx).2
 have ma : ∀ x ∈ [a.b, a.sB, a.nB, a.lB], x < W.heap.size := fun x hx => la x (aQ _ hx)
 have mb : ∀ x ∈ [b.b, b.sB, b.nB, b.lB], x < W.heap.size := fun x hx => lb x (aQ _ hx)
 have hc := G.chg
 have ga := G.a1
 have gb := G.a2
 have gn := G.ne
 have vs := hc.size
 have va : V.heap[a.b]? = some _ := (hc.block _ (aa l3) (by simp; exact ⟨ab_n, x13⟩)).trans l3
 have vb : V.heap[b.b]? = some _ := (hc.block _ (aa m3) (by simp; exact ⟨x31.symm, bb_n⟩)).trans m3
 have hk : ∀ x, x ≠ a.b -> x ≠ b.b -> ((V.setCell (aV a.b 7) (.slice (some (aV g1 0)) (it.since.length + 1) c1)).setCell (aV b.b 7) (.slice (some (aV g2 0)) (jt.since.length + 1) c2)).heap[x]? = V.heap[x]? := fun x h1 h2 => (Below.heap_setCell _ _ _ _ h2).trans (Below.heap_setCell _ _ _ _ h1)
 have hW : ∀ x, x < W.heap.size -> x ≠ a.b -> x ≠ b.b -> x ≠ a.nB -> x ≠ b.nB -> ((V.setCell (aV a.b 7) (.slice (some (aV g1 0)) (it.since.length + 1) c1)).setCell (aV b.b 7) (.slice (some (aV g2 0)) (jt.since.length + 1) c2)).heap[x]? = W.heap[x]? := fun x h0 h1 h2 h3 h4 => (hk x h1 h2).trans (hc.block _ h0 (by simp; exact ⟨h3, h4⟩))
 have wa : ((V.setCell (aV a.b 7) (.slice (some (aV g1 0)) (it.since.length + 1) c1)).setCell (aV b.b 7) (.slice (some (aV g2 0)) (jt.since.length + 1) c2)).heap[a.b]? = some _ := (Below.heap_setCell _ _ _ _ (by show a.b ≠ b.b; exact x11)).trans (bE va 7 _)
 have wb : ((V.setCell (aV a.b 7) (.slice (some (aV g1 0)) (it.since.length + 1) c1)).setCell (aV b.b 7) (.slice (some (aV g2 0)) (jt.since.length + 1) c2)).heap[b.b]? = some _ := bE ((Below.heap_setCell _ _ _ _ (by show b.b ≠ a.b; exact x11.symm)).trans vb) 7 _
 -- the new places, apart from the others
 have g1a : g1 ≠ a.b /\ g1 ≠ a.sB /\ g1 ≠ a.lB /\ g1 ≠ b.b /\ g1 ≠ b.sB /\ g1 ≠ b.lB := by
  rcases ga with rfl | e
  ·exact ⟨ab_n.symm, as_n.symm, an_l, x31, x32, x34⟩
  ·have h := fun x hx (e' : g1 = x) => (by have := ma x hx; omega : False)
   have h2 := fun x hx (e' : g1 = x) => (by have := mb x hx; omega : False)
   exact ⟨h _ (by simp), h _ (by simp), h _ (by simp), h2 _ (by simp), h2 _ (by simp), h2 _ (by simp)⟩
 have g2b : g2 ≠ a.b /\ g2 ≠ a.sB /\ g2 ≠ a.lB /\ g2 ≠ b.b /\ g2 ≠ b.sB /\ g2 ≠ b.lB := by
  rcases gb with rfl | e
  ·exact ⟨x13.symm, x23.symm, x43.symm, bb_n.symm, bs_n.symm, bn_l⟩
  ·have h := fun x hx (e' : g2 = x) => (by have := ma x hx; omega : False)
   have h2 := fun x hx (e' : g2 = x) => (by have := mb x hx; omega : False)
   exact ⟨h _ (by simp), h _ (by simp), h _ (by simp), h2 _ (by simp), h2 _ (by simp), h2 _ (by simp)⟩
 have ea : ∀ x, a.eA.map (·.block) = some x -> x < W.heap.size /\ g1 ≠ x /\ g2 ≠ x := fun x hx => by
  have h0 := (dY hi.se (by rw [dJ]; exact hx)).2
  obtain ⟨y1, y2, y3, y4, y5, y6, y7, y8⟩ := n4 x hx
  refine ⟨h0, ?_, ?_⟩
  ·rcases ga with rfl | e
   ·exact y3.symm
   ·omega
  ·rcases gb with rfl | e
   ·exact y7.symm
   ·omega
 have eb : ∀ x, b.eA.map (·.block) = some x -> x < W.heap.size /\ g1 ≠ x /\ g2 ≠ x := fun x hx => by
  have h0 := (dY hj.se (by rw [dJ]; exact hx)).2
  obtain ⟨y1, y2, y3, y4, y5, y6, y7, y8⟩ := n5 x hx
  refine ⟨h0, ?_, ?_⟩
  ·rcases ga with rfl | e
   ·exact y3.symm
   ·omega
  ·rcases gb with rfl | e
   ·exact y7.symm
   ·omega
 have ra := cM G.r1 (W' := ((V.setCell (aV a.b 7) (.slice (some (aV g1 0)) (it.since.length + 1) c1)).setCell (aV b.b 7) (.slice (some (aV g2 0)) (jt.since.length + 1) c2))) (hk _ g1a.1 g1a.2.2.2.1)
 have rb := cM G.r2 (W' := ((V.setCell (aV a.b 7) (.slice (some (aV g1 0)) (it.since.length + 1) c1)).setCell (aV b.b 7) (.slice (some (aV g2 0)) (jt.since.length + 1) c2))) (hk _ g2b.1 g2b.2.2.2.1)
 refine ⟨⟨⟨lv, l1, l2, ?_⟩, hi.ge, cM hi.st (hW _ (ma _ (by simp)) ab_s.symm x21 as_n x23), ?_, cM hi.la (hW _ (ma _ (by simp)) ab_l.symm x41 an_l.symm x43), kN hi.se (fun g hg => ?_)⟩,
  ⟨⟨mv, m1, m2, ?_⟩, hj.ge, cM hj.st (hW _ (mb _ (by simp)) x12.symm bb_s.symm x32.symm bs_n), ?_, cM hj.la (hW _ (mb _ (by simp)) x14.symm bb_l.symm x34.symm bn_l.symm), kN hj.se (fun g hg => ?_)⟩,
  ⟨hc.os, hc.tape, hc.output, by simpa using vs, fun x hx hs => ?_⟩, fun x hx => ?_, fun x hx => ?_, ?_, rfl, rfl⟩
 ·rw [wa]
  simp
 ·simpa using ra
 ·obtain ⟨y1, y2, y3, y4, y5, y6, y7, y8⟩ := n4 g hg
  exact hW g (ea g hg).1 y1 y5 y3 y7
 ·rw [wb]
  simp
 ·simpa using rb
 ·obtain ⟨y1, y2, y3, y4, y5, y6, y7, y8⟩ := n5 g hg
  exact hW g (eb g hg).1 y1 y5 y3 y7
 ·simp [ItA.blks] at hs
  exact hW x hx hs.1 hs.2.2.2.2.2.1 hs.2.2.1 hs.2.2.2.2.2.2.2.1
 ·unfold ItA.blks at hx ⊢
  simp at hx ⊢
  rcases hx with h | h | rfl | h
  ·exact .inl (.inl h)
  ·exact .inl (.inr (.inl h))
  ·rcases ga with e | e
   ·exact .inl (.inr (.inr (.inl e)))
   ·exact .inr e
  ·exact .inl (.inr (.inr (.inr h)))
 ·unfold ItA.blks at hx ⊢
  simp at hx ⊢
  rcases hx with h | h | rfl | h
  ·exact .inl (.inl h)
  ·exact .inl (.inr (.inl h))
  ·rcases gb with e | e
   ·exact .inl (.inr (.inr (.inl e)))
   ·exact .inr e
  ·exact .inl (.inr (.inr (.inr h)))
 ·refine sK ⟨ab_s, g1a.1.symm, ab_l, g1a.2.1.symm, as_l, g1a.2.2.1⟩ ⟨bb_s, g2b.2.2.2.1.symm, bb_l, g2b.2.2.2.2.1.symm, bs_l, g2b.2.2.2.2.2⟩ ⟨⟨x11, x12, g2b.1.symm, x14⟩, ⟨x21, x22, g2b.2.1.symm, x24⟩, ⟨g1a.2.2.2.1, g1a.2.2.2.2.1, gn, g1a.2.2.2.2.2⟩, ⟨x41, x42, g2b.2.2.1.symm, x44⟩⟩ (fun x hx => ?_) (fun x hx => ?_) n6
  ·obtain ⟨y1, y2, y3, y4, y5, y6, y7, y8⟩ := n4 x hx
   obtain ⟨-, e1, e2⟩ := ea x hx
   exact ⟨y1, y2, e1.symm, y4, y5, y6, e2.symm, y8⟩
  ·obtain ⟨y1, y2, y3, y4, y5, y6, y7, y8⟩ := n5 x hx
   obtain ⟨-, e1, e2⟩ := eb x hx
   exact ⟨y1, y2, e1.symm, y4, y5, y6, e2.symm, y8⟩
theorem Two.labs {base : Nat} {W V : World} {it jt : Itm} {a b : ItA} {t u : List UInt8} {g1 c1 g2 c2 : Nat} (hi : cD base W it a) (hj : cD base W jt b) (hnd : (a.blks ++ b.blks).Nodup)
  (G : pc base W V 9 a.lB b.lB g1 c1 g2 c2 (it.labs.length + 1) (jt.labs.length + 1) (it.labs.map sV ++ [sV t]) (jt.labs.map sV ++ [sV u])) :
  Two base W ((V.setCell (aV a.b 8) (.slice (some (aV g1 0)) (it.labs.length + 1) c1)).setCell (aV b.b 8) (.slice (some (aV g2 0)) (jt.labs.length + 1) c2)) a b { a with lB := g1, lC := c1 } { b with lB := g2, lC := c2 } { it with labs := it.labs ++ [t] } { jt with labs := jt.labs ++ [u] } := by
 obtain ⟨⟨ab_s, ab_l, ab_n, as_l, as_n, an_l0⟩, ⟨bb_s, bb_l, bb_n, bs_l, bs_n, bn_l0⟩, ⟨⟨x11, x12, x14, x13⟩, ⟨x21, x22, x24, x23⟩, ⟨x41, x42, x44, x43⟩, ⟨x31, x32, x34, x33⟩⟩, n4, n5, n6⟩ := lX hnd
 have an_l := an_l0.symm
 have bn_l := bn_l0.symm
 obtain ⟨lv, l1, l2, l3⟩ := hi.cells
 obtain ⟨mv, m1, m2, m3⟩ := hj.cells
 have la : ∀ x ∈ a.blks, x < W.heap.size := fun x hx => (hi.lt x hx).2
 have lb : ∀ x ∈ b.blks, x < W.heap.size := fun x hx => (hj.lt x hx).2
 have ma : ∀ x ∈ [a.b, a.sB, a.nB, a.lB], x < W.heap.size := fun x hx => la x (aQ _ hx)
 have mb : ∀ x ∈ [b.b, b.sB, b.nB, b.lB], x < W.heap.size := fun x hx => lb x (aQ _ hx)
 have hc := G.chg
 have ga := G.a1
 have gb := G.a2
 have gn := G.ne
 have vs := hc.size
 have va : V.heap[a.b]? = some _ := (hc.block _ (aa l3) (by simp; exact ⟨ab_n, x13⟩)).trans l3
 have vb : V.heap[b.b]? = some _ := (hc.block _ (aa m3) (by simp; exact ⟨x31.symm, bb_n⟩)).trans m3
 have hk : ∀ x, x ≠ a.b -> x ≠ b.b -> ((V.setCell (aV a.b 8) (.slice (some (aV g1 0)) (it.labs.length + 1) c1)).setCell (aV b.b 8) (.slice (some (aV g2 0)) (jt.labs.length + 1) c2)).heap[x]? = V.heap[x]? := fun x h1 h2 => (Below.heap_setCell _ _ _ _ h2).trans (Below.heap_setCell _ _ _ _ h1)
 have hW : ∀ x, x < W.heap.size -> x ≠ a.b -> x ≠ b.b -> x ≠ a.lB -> x ≠ b.lB -> ((V.setCell (aV a.b 8) (.slice (some (aV g1 0)) (it.labs.length + 1) c1)).setCell (aV b.b 8) (.slice (some (aV g2 0)) (jt.labs.length + 1) c2)).heap[x]? = W.heap[x]? := fun x h0 h1 h2 h3 h4 => (hk x h1 h2).trans (hc.block _ h0 (by simp; exact ⟨h3, h4⟩))
 have wa : ((V.setCell (aV a.b 8) (.slice (some (aV g1 0)) (it.labs.length + 1) c1)).setCell (aV b.b 8) (.slice (some (aV g2 0)) (jt.labs.length + 1) c2)).heap[a.b]? = some _ := (Below.heap_setCell _ _ _ _ (by show a.b ≠ b.b; exact x11)).trans (bE va 8 _)
 have wb : ((V.setCell (aV a.b 8) (.slice (some (aV g1 0)) (it.labs.length + 1) c1)).setCell (aV b.b 8) (.slice (some (aV g2 0)) (jt.labs.length + 1) c2)).heap[b.b]? = some _ := bE ((Below.heap_setCell _ _ _ _ (by show b.b ≠ a.b; exact x11.symm)).trans vb) 8 _
 -- the new places, apart from the others
 have g1a : g1 ≠ a.b /\ g1 ≠ a.sB /\ g1 ≠ a.nB /\ g1 ≠ b.b /\ g1 ≠ b.sB /\ g1 ≠ b.nB := by
  rcases ga with rfl | e
  ·exact ⟨ab_n.symm, as_n.symm, an_l, x31, x32, x34⟩
  ·have h := fun x hx (e' : g1 = x) => (by have := ma x hx; omega : False)
   have h2 := fun x hx (e' : g1 = x) => (by have := mb x hx; omega : False)
   exact ⟨h _ (by simp), h _ (by simp), h _ (by simp), h2 _ (by simp), h2 _ (by simp), h2 _ (by simp)⟩
 have g2b : g2 ≠ a.b /\ g2 ≠ a.sB /\ g2 ≠ a.nB /\ g2 ≠ b.b /\ g2 ≠ b.sB /\ g2 ≠ b.nB := by
  rcases gb with rfl | e
  ·exact ⟨x13.symm, x23.symm, x43.symm, bb_n.symm, bs_n.symm, bn_l⟩
  ·have h := fun x hx (e' : g2 = x) => (by have := ma x hx; omega : False)
   have h2 := fun x hx (e' : g2 = x) => (by have := mb x hx; omega : False)
   exact ⟨h _ (by simp), h _ (by simp), h _ (by simp), h2 _ (by simp), h2 _ (by simp), h2 _ (by simp)⟩
 have ea : ∀ x, a.eA.map (·.block) = some x -> x < W.heap.size /\ g1 ≠ x /\ g2 ≠ x := fun x hx => by
  have h0 := (dY hi.se (by rw [dJ]; exact hx)).2
  obtain ⟨y1, y2, y4, y3, y5, y6, y8, y7⟩ := n4 x hx
  refine ⟨h0, ?_, ?_⟩
  ·rcases ga with rfl | e
   ·exact y3.symm
   ·omega
  ·rcases gb with rfl | e
   ·exact y7.symm
   ·omega
 have eb : ∀ x, b.eA.map (·.block) = some x -> x < W.heap.size /\ g1 ≠ x /\ g2 ≠ x := fun x hx => by
  have h0 := (dY hj.se (by rw [dJ]; exact hx)).2
  obtain ⟨y1, y2, y4, y3, y5, y6, y8, y7⟩ := n5 x hx
  refine ⟨h0, ?_, ?_⟩
  ·rcases ga with rfl | e
   ·exact y3.symm
   ·omega
  ·rcases gb with rfl | e
   ·exact y7.symm
   ·omega
 have ra := cM G.r1 (W' := ((V.setCell (aV a.b 8) (.slice (some (aV g1 0)) (it.labs.length + 1) c1)).setCell (aV b.b 8) (.slice (some (aV g2 0)) (jt.labs.length + 1) c2))) (hk _ g1a.1 g1a.2.2.2.1)
 have rb := cM G.r2 (W' := ((V.setCell (aV a.b 8) (.slice (some (aV g1 0)) (it.labs.length + 1) c1)).setCell (aV b.b 8) (.slice (some (aV g2 0)) (jt.labs.length + 1) c2))) (hk _ g2b.1 g2b.2.2.2.1)
 refine ⟨⟨⟨lv, l1, l2, ?_⟩, hi.ge, cM hi.st (hW _ (ma _ (by simp)) ab_s.symm x21 as_n x23), cM hi.si (hW _ (ma _ (by simp)) ab_l.symm x41 an_l.symm x43), ?_, kN hi.se (fun g hg => ?_)⟩,
  ⟨⟨mv, m1, m2, ?_⟩, hj.ge, cM hj.st (hW _ (mb _ (by simp)) x12.symm bb_s.symm x32.symm bs_n), cM hj.si (hW _ (mb _ (by simp)) x14.symm bb_l.symm x34.symm bn_l.symm), ?_, kN hj.se (fun g hg => ?_)⟩,
  ⟨hc.os, hc.tape, hc.output, by simpa using vs, fun x hx hs => ?_⟩, fun x hx => ?_, fun x hx => ?_, ?_, rfl, rfl⟩
 ·rw [wa]
  simp
 ·simpa using ra
 ·obtain ⟨y1, y2, y4, y3, y5, y6, y8, y7⟩ := n4 g hg
  exact hW g (ea g hg).1 y1 y5 y3 y7
 ·rw [wb]
  simp
 ·simpa using rb
 ·obtain ⟨y1, y2, y4, y3, y5, y6, y8, y7⟩ := n5 g hg
  exact hW g (eb g hg).1 y1 y5 y3 y7
 ·simp [ItA.blks] at hs
  exact hW x hx hs.1 hs.2.2.2.2.2.1 hs.2.2.2.1 hs.2.2.2.2.2.2.2.2.1
 ·unfold ItA.blks at hx ⊢
  simp at hx ⊢
  rcases hx with h | h | h | rfl | h
  ·exact .inl (.inl h)
  ·exact .inl (.inr (.inl h))
  ·exact .inl (.inr (.inr (.inl h)))
  ·rcases ga with e | e
   ·exact .inl (.inr (.inr (.inr (.inl e))))
   ·exact .inr e
  ·exact .inl (.inr (.inr (.inr (.inr h))))
 ·unfold ItA.blks at hx ⊢
  simp at hx ⊢
  rcases hx with h | h | h | rfl | h
  ·exact .inl (.inl h)
  ·exact .inl (.inr (.inl h))
  ·exact .inl (.inr (.inr (.inl h)))
  ·rcases gb with e | e
   ·exact .inl (.inr (.inr (.inr (.inl e))))
   ·exact .inr e
  ·exact .inl (.inr (.inr (.inr (.inr h))))
 ·refine sK ⟨ab_s, ab_l, g1a.1.symm, as_l, g1a.2.1.symm, g1a.2.2.1.symm⟩ ⟨bb_s, bb_l, g2b.2.2.2.1.symm, bs_l, g2b.2.2.2.2.1.symm, g2b.2.2.2.2.2.symm⟩ ⟨⟨x11, x12, x14, g2b.1.symm⟩, ⟨x21, x22, x24, g2b.2.1.symm⟩, ⟨x41, x42, x44, g2b.2.2.1.symm⟩, ⟨g1a.2.2.2.1, g1a.2.2.2.2.1, g1a.2.2.2.2.2, gn⟩⟩ (fun x hx => ?_) (fun x hx => ?_) n6
  ·obtain ⟨y1, y2, y4, y3, y5, y6, y8, y7⟩ := n4 x hx
   obtain ⟨-, e1, e2⟩ := ea x hx
   exact ⟨y1, y2, y4, e1.symm, y5, y6, y8, e2.symm⟩
  ·obtain ⟨y1, y2, y4, y3, y5, y6, y8, y7⟩ := n5 x hx
   obtain ⟨-, e1, e2⟩ := eb x hx
   exact ⟨y1, y2, y4, e1.symm, y5, y6, y8, e2.symm⟩
theorem dC {w : World} {k : Nat} {x : Value} {e : TypeId} (h : w.heap[k]? = some (.cells #[x] e (0, 0))) : ∀ (j : Nat) (u : Value), [x][j]? = some u -> w.cell? (((aV k 0) : Addr).add j) = some u := fun j u hu => by
 rw [gr, Nat.zero_add]
 exact (aA j h).trans (by simpa using hu)
structure jj (base : Nat) (W V : World) (e : TypeId) (s1 g1 c1 n1 : Nat) (xs : List Value) : Prop where
 r1 : V.ownsRow base e 1 (.slice (some (aV g1 0)) n1 c1) n1 xs
 a1 : g1 = s1 ∨ W.heap.size <= g1
 chg : bz [s1] W V
theorem jj.alloc {base : Nat} {W V : World} {e : TypeId} {s1 g1 c1 n1 : Nat} {xs : List Value} (h : jj base W V e s1 g1 c1 n1 xs) (o : Obj) : jj base W (V.alloc o) e s1 g1 c1 n1 xs :=
 ⟨aq h.r1 (ba V o), h.a1, h.chg.trans (bz.of_below (S := []) (ba V o)) (fun _ hb => by cases hb)⟩
theorem gZ {base : Nat} {W V V' : World} {e : TypeId} {s1 n c g cap H k : Nat} {xs : List Value} (hV : Below W.heap.size W V) (own : V'.ownsRow base e 1 (.slice (some (aV g 0)) k cap) k xs) (hg : V.grownBy V' (Value.ownBlock (.slice (some (aV s1 0)) n c))) (hat : Value.ownBlock (.slice (some (aV s1 0)) n c) = some g ∨ g = H) (hH : W.heap.size <= H) : jj base W V' e s1 g cap k xs := by
 refine ⟨own, ?_, (bz.of_below hV).trans (bz.of_grown (S := [s1]) hg (fun x hx => by cases hx; simp)) (fun x hx => .inl hx)⟩
 rcases hat with h | h
 ·cases h; exact .inl rfl
 ·exact .inr (by omega)
theorem gY {base : Nat} {W V V' : World} {e : TypeId} {s1 s2 n c g1 c1 n1 g cap H k : Nat} {xs ys : List Value} (h : jj base W V e s1 g1 c1 n1 xs) (h12 : s1 ≠ s2) (hs2 : s2 < W.heap.size) (own : V'.ownsRow base e 1 (.slice (some (aV g 0)) k cap) k ys) (hg : V.grownBy V' (Value.ownBlock (.slice (some (aV s2 0)) n c))) (hat : Value.ownBlock (.slice (some (aV s2 0)) n c) = some g ∨ g = H) (hH : V.heap.size <= H) : pc base W V' e s1 s2 g1 c1 g cap n1 k xs ys := by
 have hlt : g1 < V.heap.size := (dY h.r1 rfl).2
 have h1 : g1 ≠ s2 := by
  rcases h.a1 with e | e
  ·rw [e]; exact h12
  ·omega
 refine ⟨cM h.r1 (hg.block _ hlt (fun e => h1 (Option.some.inj e))), own, h.a1, ?_, ?_, (h.chg.mono (fun x hx => by simp at hx ⊢; exact .inl hx)).grown hg (fun x hx => by cases hx; simp)⟩
 ·rcases hat with e | e
  ·cases e; exact .inl rfl
  ·exact .inr (by have := h.chg.size; omega)
 ·rcases hat with e | e
  ·cases e; exact h1
  ·omega
def su (n : Net) (nx : List NsC) (canc : List Int) (before : Int) (all : List Itm) (f : Nat) : List Itm -> Option (List Itm)
 | [] => some []
 | it :: l => match eX n nx canc (bw all it) before f it with
  | none => none
  | some x => (cK n nx canc before all l).map (x :: ·)
theorem lm (n : Net) (nx : List NsC) (canc : List Int) (before : Int) (all l : List Itm) : su n nx canc before all 21 l = cK n nx canc before all l := by
 cases l <;> rfl
theorem ir (n : Net) (nx : List NsC) (canc : List Int) (before : Int) (all : List Itm) (f : Nat) (it : Itm) (l : List Itm) : su n nx canc before all f (it :: l) = match eX n nx canc (bw all it) before f it with | none => none | some x => (cK n nx canc before all l).map (x :: ·) := rfl
theorem rz {n : Net} {nx : List NsC} {canc : List Int} {dst before : Int} {f : Nat} {it : Itm} (h : ¬ (0 <= it.line /\ it.leave < before)) : eX n nx canc dst before (f + 1) it = some it := by rw [eX, if_neg h]
theorem vE {n : Net} {nx : List NsC} {canc : List Int} {dst before : Int} {f : Nat} {it : Itm} (h : 0 <= it.line /\ it.leave < before) (h2 : ¬ 20 <= it.stops.length) : eX n nx canc dst before (f + 1) it = eX n nx canc dst before f (gy n nx canc dst it) := by rw [eX, if_pos h, if_neg h2]
theorem ry {n : Net} {nx : List NsC} {canc : List Int} {dst before : Int} {f : Nat} {it : Itm} (h : 0 <= it.line /\ it.leave < before) (h2 : 20 <= it.stops.length) : eX n nx canc dst before (f + 1) it = none := by rw [eX, if_pos h, if_pos h2]
structure gu (n : Net) (nx : List NsC) (canc : List Int) (before : Int) (all : List Itm) (k f : Nat) (its : List Itm) : Prop where
 len : its.length = all.length
 same : ∀ (i : Nat) (x : Itm), its[i]? = some x -> ∃ y, all[i]? = some y /\ eZ y x
 ok : ∀ x ∈ its, fL n x /\ dF n nx canc (bw all x) x
 eq : cK n nx canc before all all = (su n nx canc before all f (its.drop k)).map (its.take k ++ ·)
 fuel : ∀ x, its[k]? = some x -> 22 <= f + x.stops.length
theorem gu.posts {n : Net} {nx : List NsC} {canc : List Int} {before : Int} {all : List Itm} {k f : Nat} {its : List Itm} (h : gu n nx canc before all k f its) : its.map (·.post) = all.map (·.post) :=
 lw h.len fun i y hy => by
  have hl : i < its.length := by rw [h.len]; exact (aE.1 hy).1
  obtain ⟨y', h1, h2⟩ := h.same i _ (aD hl)
  rw [hy] at h1
  cases h1
  exact ⟨_, aD hl, h2.post⟩
theorem nj {all : List Itm} {x y : Itm} (h : eZ y x) : bw all x = bw all y := by
 unfold bw bq
 rw [h.labs]
theorem gu.start {n : Net} {nx : List NsC} {canc : List Int} {before : Int} {all : List Itm} (h1 : ∀ x ∈ all, fL n x) (h2 : ∀ x ∈ all, dF n nx canc (bw all x) x) : gu n nx canc before all 0 21 all :=
 ⟨rfl, fun _ x h => ⟨x, h, eZ.refl x⟩, fun x hx => ⟨h1 x hx, h2 x hx⟩, by rw [List.drop_zero, lm]; simp, fun x hx => by
  have := fP (h1 x (aF hx)).path
  have := aL.2 this
  omega⟩
theorem gu.fin {n : Net} {nx : List NsC} {canc : List Int} {before : Int} {all : List Itm} {f : Nat} {its : List Itm} (h : gu n nx canc before all all.length f its) : cK n nx canc before all all = some its := by
 rw [h.eq, List.drop_eq_nil_of_le (by rw [h.len]; exact aH _), List.take_of_length_le (by rw [h.len]; exact aH _)]
 simp [su]
theorem gu.pos {n : Net} {nx : List NsC} {canc : List Int} {before : Int} {all : List Itm} {k f : Nat} {its : List Itm} (h : gu n nx canc before all k f its) {x : Itm} (hx : its[k]? = some x) : 2 <= f := by
 have h1 := h.fuel x hx
 have h2 := (h.ok x (aF hx)).1.len
 omega
theorem gu.next {n : Net} {nx : List NsC} {canc : List Int} {before : Int} {all : List Itm} {k f : Nat} {its : List Itm} (h : gu n nx canc before all k f its) {x : Itm} (hx : its[k]? = some x) (hs : ¬ (0 <= x.line /\ x.leave < before)) : gu n nx canc before all (k + 1) 21 its := by
 have hf := h.pos hx
 obtain ⟨g, rfl⟩ : ∃ g, f = g + 1 := ⟨f - 1, by omega⟩
 obtain ⟨hk, hxe⟩ := aE.1 hx
 refine ⟨h.len, h.same, h.ok, ?_, fun y hy => ?_⟩
 ·rw [h.eq, List.drop_eq_getElem_cons hk, hxe, lm]
  rw [ir, rz hs, List.take_succ_eq_append_getElem hk, hxe]
  simp [Option.map_map, Function.comp_def]
 ·have := fP (h.ok y (aF hy)).1.path
  have := aL.2 this
  omega
theorem gu.goes {n : Net} {nx : List NsC} {canc : List Int} {before : Int} {all : List Itm} {k f : Nat} {its : List Itm} (hG : cY n) (hF : bi n nx) (h : gu n nx canc before all k f its) {x : Itm} (hx : its[k]? = some x) (hs : 0 <= x.line /\ x.leave < before) (hd : 0 <= bw all x /\ bw all x < n.offs.length) (h20 : x.stops.length < 20) :
  gu n nx canc before all k (f - 1) (its.set k (gy n nx canc (bw all x) x)) /\ fL n (cw n x) := by
 have hf := h.pos hx
 obtain ⟨g, rfl⟩ : ∃ g, f = g + 1 := ⟨f - 1, by omega⟩
 obtain ⟨hk, hxe⟩ := aE.1 hx
 obtain ⟨o1, o2⟩ := h.ok x (aF hx)
 have hg := qi hG hF o1 hd o2 hs.1 h20
 have hto : bw all (gy n nx canc (bw all x) x) = bw all x := rfl
 refine ⟨⟨by simp [h.len], fun i y hy => ?_, fun y hy => ?_, ?_, fun y hy => ?_⟩, hg⟩
 ·rw [List.getElem?_set] at hy
  by_cases e : k = i
  ·subst e
   rw [if_pos rfl, if_pos hk] at hy
   cases hy
   obtain ⟨z, h1, h2⟩ := h.same k x hx
   exact ⟨z, h1, h2.trans ⟨rfl, rfl, rfl, rfl⟩⟩
  ·rw [if_neg e] at hy
   exact h.same i y hy
 ·obtain ⟨i, hi⟩ := List.getElem?_of_mem hy
  rw [List.getElem?_set] at hi
  by_cases e : k = i
  ·subst e
   rw [if_pos rfl, if_pos hk] at hi
   cases hi
   exact ⟨⟨hg.path, hg.head, hg.len, hg.offs, hg.labs, hg.sin⟩, by rw [hto]; exact fu _ _ _ _ _⟩
  ·rw [if_neg e] at hi
   exact h.ok y (aF hi)
 ·rw [h.eq, List.drop_eq_getElem_cons hk, hxe, List.drop_eq_getElem_cons (l := its.set k _) (by simpa using hk), List.getElem_set_self, List.drop_set_of_lt (by omega), List.take_set_of_le (aH _)]
  rw [ir, ir, vE hs (by omega), hto]
  rfl
 ·rw [List.getElem?_set, if_pos rfl, if_pos hk] at hy
  cases hy
  have h1 := h.fuel x hx
  have h2 : (gy n nx canc (bw all x) x).stops.length = x.stops.length + 1 := by
   have := aL.2 (fP o1.path)
   show ((x.stops.dropLast ++ [_]) ++ [_]).length = _
   simp
   omega
  omega
theorem gu.stop {n : Net} {nx : List NsC} {canc : List Int} {before : Int} {all : List Itm} {k f : Nat} {its : List Itm} (h : gu n nx canc before all k f its) {x : Itm} (hx : its[k]? = some x) (hs : 0 <= x.line /\ x.leave < before) (h20 : 20 <= x.stops.length) : cK n nx canc before all all = none := by
 have hf := h.pos hx
 obtain ⟨g, rfl⟩ : ∃ g, f = g + 1 := ⟨f - 1, by omega⟩
 obtain ⟨hk, hxe⟩ := aE.1 hx
 rw [h.eq, List.drop_eq_getElem_cons hk, hxe]
 rw [ir, ry hs h20]
 rfl
end Go.Proofs.YtpeaiphdkgifaaaGreatDoor
