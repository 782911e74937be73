/-
  Laws of histories, in plain Lean: losses, cancellations, a further hold, items alone. The walks over the references' comparisons, of equal lists and tracks; and the tracks in memory. The walks over the reference's comparisons of tracks, at equal ones.
-/
import Derived.Test.YtpeaiphdkgifaaaGreatDoorWbp
import Derived.Test.YtpeaiphdkgifaaaGreatDoorWbc
import Derived.Test.YtpeaiphdkgifaaaGreatDoorWba
import Derived.Deep.QuietTactic
import Derived.BigQuiet
import Derived.Test.YtpeaiphdkgifaaaGreatDoorWbn
namespace Go.Proofs.YtpeaiphdkgifaaaGreatDoor
open Go.RowKit
set_option maxHeartbeats 20000000
set_option maxRecDepth 100000
def LossOk (canc : List Int) (bef : List Ded) (it : Itm) : Prop := ∀ d ∈ bef, (d.kind = 2 -> d.label = it.post.label -> it.lost = true /\ ∀ s ∈ it.stops.dropLast, s.depart < d.time) /\ (d.kind = 5 -> d.line ∈ canc /\ ∀ s ∈ it.stops.dropLast, s.line = d.line -> s.depart < d.time)
theorem LossOk.same {canc canc' : List Int} {bef : List Ded} {it it' : Itm} (h : LossOk canc bef it) (hc : ∀ x ∈ canc, x ∈ canc') (h1 : it'.post = it.post) (h2 : it.lost = true -> it'.lost = true) (h3 : it'.stops = it.stops) : LossOk canc' bef it' := fun d hd => by
 obtain ⟨a, b⟩ := h d hd
 rw [h1, h3]
 exact ⟨fun e1 e2 => ⟨h2 (a e1 e2).1, (a e1 e2).2⟩, fun e => ⟨hc _ (b e).1, (b e).2⟩⟩
theorem loss_end {n : Net} {nx : List NsC} (hG : Good n) (hF : Formed n nx) {ds : List Ded} {h : Hst} (hr : runR n nx ds = some h) (hd : DedsOk n [] 0 ds) : ∀ it ∈ h.items, LossOk h.canc ds it := by
 obtain ⟨-, hq, -⟩ := run_ind (Q := fun bef _ h => (∀ d ∈ bef, d.kind = 2 -> d.label ∈ postedL bef) /\ (∀ d ∈ bef, d.kind = 5 -> d.line ∈ h.canc) /\ ∀ it ∈ h.items, LossOk h.canc bef it) hG hF
  (fun bef t u h l hq H _ hp => by
   refine ⟨hq.1, hq.2.1, fun it' hm => ?_⟩
   obtain ⟨it, hi, hmv⟩ := procF_back hp hm
   refine ((move_ind (P := fun x => (ItOk n x /\ DecOk n nx h.canc (toOf h.items it) x) /\ LossOk h.canc bef x) (fun x ⟨⟨b2, b3⟩, b4⟩ c1 c2 c3 => ?_) hmv ⟨⟨H.item it hi, H.dec it hi⟩, hq.2.2 it hi⟩).1).2
   have hg := goneI_ok hG hF b2 (H.dst hi) b3 c1 c3
   have g := b3.goes c1
   refine ⟨⟨⟨hg.path, hg.head, hg.len, hg.offs, hg.labs, hg.sin⟩, decide_ok _ _ _ _ _⟩, fun d hd => ?_⟩
   obtain ⟨a, b⟩ := b4 d hd
   have hs : (stepI n nx h.canc (toOf h.items it) x).stops.dropLast = x.stops.dropLast ++ [{ lastSt x.stops with depart := x.leave, line := x.line }] := gone_dec x
   rw [hs]
   refine ⟨fun e1 e2 => ?_, fun e => ⟨(b e).1, fun s hs2 hl => ?_⟩⟩
   ·have h1 := (a e1 e2).1
    rw [g.lost] at h1
    cases h1
   ·rcases List.mem_append.1 hs2 with hs2 | hs2
    ·exact (b e).2 s hs2 hl
    ·rw [List.mem_singleton.1 hs2] at hl
     exact absurd (b e).1 (by rw [<- hl]; exact g.nc))
  (fun bef d h hq H hd _ _ => by
   have hpl : ∀ x ∈ postedL bef, x ∈ postedL (bef ++ [d]) := fun x hx => by
    unfold postedL at hx ⊢
    rw [List.filter_append, List.map_append]
    exact List.mem_append_left _ hx
   have hdep : ∀ it ∈ h.items, ∀ s ∈ it.stops.dropLast, s.depart < d.time := fun it hi => (H.time it hi).dep
   -- items that stay but for what the deed says
   have gen : ∀ (f : Itm -> Itm) (canc' : List Int), (∀ x ∈ h.canc, x ∈ canc') -> (d.kind = 5 -> d.line ∈ canc') -> (∀ it ∈ h.items, (f it).post = it.post /\ (f it).stops = it.stops /\ (it.lost = true -> (f it).lost = true) /\ (d.kind = 2 -> d.label = it.post.label -> (f it).lost = true)) -> ∀ x ∈ h.items.map f, LossOk canc' (bef ++ [d]) x := by
    intro f canc' hc hc5 hf x hx
    obtain ⟨it, hi, rfl⟩ := List.mem_map.1 hx
    obtain ⟨a1, a2, a3, a4⟩ := hf it hi
    intro e he
    rcases List.mem_append.1 he with he | he
    ·exact ((hq.2.2 it hi).same hc a1 a3 a2) e he
    ·rw [List.mem_singleton.1 he, a1, a2]
     exact ⟨fun e1 e2 => ⟨a4 e1 e2, hdep it hi⟩, fun e1 => ⟨hc5 e1, fun s hs _ => hdep it hi s hs⟩⟩
   have old : ∀ e ∈ bef ++ [d], e.kind = 2 -> e.label ∈ postedL (bef ++ [d]) := fun e he hk => by
    rcases List.mem_append.1 he with he | he
    ·exact hpl _ (hq.1 e he hk)
    ·rw [List.mem_singleton.1 he] at hk ⊢
     rcases hd with ⟨k, -⟩ | ⟨-, hl⟩ | ⟨k, -⟩ | ⟨k, -⟩
     ·omega
     ·exact hpl _ hl
     ·omega
     ·omega
   have canc5 : ∀ canc' : List Int, (∀ x ∈ h.canc, x ∈ canc') -> (d.kind = 5 -> d.line ∈ canc') -> ∀ e ∈ bef ++ [d], e.kind = 5 -> e.line ∈ canc' := fun canc' hc hc5 e he hk => by
    rcases List.mem_append.1 he with he | he
    ·exact hc _ (hq.2.1 e he hk)
    ·rw [List.mem_singleton.1 he] at hk ⊢
     exact hc5 hk
   refine ⟨old, ?_⟩
   rcases hd with ⟨hk, hl, hnew, hfr, hto, hcl, hacc⟩ | ⟨hk, hl⟩ | ⟨hk, hl, ho, hne⟩ | ⟨hk, hl1, hl2⟩
   ·unfold actR
    rw [if_pos hk]
    refine ⟨canc5 h.canc (fun _ h => h) (fun e => by omega), fun x hx => ?_⟩
    rcases List.mem_append.1 hx with hx | hx
    ·have := gen id h.canc (fun _ h => h) (fun e => by omega) (fun it _ => ⟨rfl, rfl, fun h => h, fun e => by omega⟩) x (by simpa using hx)
     exact this
    ·rw [List.mem_singleton.1 hx]
     intro e he
     refine ⟨fun e1 e2 => ?_, fun e1 => ⟨canc5 h.canc (fun _ h => h) (fun e => by omega) e he e1, fun s hs => by cases hs⟩⟩
     exfalso
     rcases List.mem_append.1 he with he | he
     ·exact hnew (e2 ▸ hq.1 e he e1)
     ·rw [List.mem_singleton.1 he] at e1
      omega
   ·unfold actR
    rcases hk with hk | hk
    ·rw [if_neg (by omega), if_pos hk]
     refine ⟨canc5 h.canc (fun _ h => h) (fun e => by omega), gen _ h.canc (fun _ h => h) (fun e => by omega) (fun it _ => ?_)⟩
     split
     ·exact ⟨rfl, rfl, fun _ => rfl, fun _ _ => rfl⟩
     ·rename_i g
      exact ⟨rfl, rfl, fun h => h, fun _ e => absurd (by simp [e]) g⟩
    ·rw [if_neg (by omega), if_neg (by omega), if_pos hk]
     refine ⟨canc5 h.canc (fun _ h => h) (fun e => by omega), gen _ h.canc (fun _ h => h) (fun e => by omega) (fun it _ => ?_)⟩
     split
     ·unfold holdI
      split
      ·exact ⟨rfl, rfl, fun h => h, fun e => by omega⟩
      ·split <;> exact ⟨rfl, rfl, fun h => h, fun e => by omega⟩
     ·exact ⟨rfl, rfl, fun h => h, fun e => by omega⟩
   ·unfold actR
    rw [if_neg (by omega), if_neg (by omega), if_neg (by omega), if_pos hk]
    obtain ⟨a, ha, ea, fa⟩ := H.find hl
    obtain ⟨b, hb, eb, fb⟩ := H.find ho
    rw [fa, fb]
    dsimp only
    split
    ·refine ⟨canc5 h.canc (fun _ h => h) (fun e => by omega), gen _ h.canc (fun _ h => h) (fun e => by omega) (fun it _ => ?_)⟩
     unfold swapI
     split
     ·exact ⟨rfl, rfl, fun h => h, fun e => by omega⟩
     ·split
      ·exact ⟨rfl, rfl, fun h => h, fun e => by omega⟩
      ·exact ⟨rfl, rfl, fun h => h, fun e => by omega⟩
    ·refine ⟨canc5 h.canc (fun _ h => h) (fun e => by omega), fun x hx => ?_⟩
     have := gen id h.canc (fun _ h => h) (fun e => by omega) (fun it _ => ⟨rfl, rfl, fun h => h, fun e => by omega⟩) x (by simpa using hx)
     exact this
   ·unfold actR
    rw [if_neg (by omega), if_neg (by omega), if_neg (by omega), if_neg (by omega)]
    refine ⟨canc5 _ (fun _ h => List.mem_cons_of_mem _ h) (fun _ => List.mem_cons_self ..), gen _ _ (fun _ h => List.mem_cons_of_mem _ h) (fun _ => List.mem_cons_self ..) (fun it _ => ?_)⟩
    split
    ·exact ⟨rfl, rfl, fun h => h, fun e => by omega⟩
    ·exact ⟨rfl, rfl, fun h => h, fun e => by omega⟩) hr hd (by omega) (by omega) (hs_nil n nx) ⟨fun _ h => (by cases h), fun _ h => (by cases h), fun _ h => (by cases h)⟩
 exact hq.2.2
theorem step_len {n : Net} {nx : List NsC} {canc : List Int} {dst : Int} {it : Itm} (h : it.stops ≠ []) : (stepI n nx canc dst it).stops.length = it.stops.length + 1 := by
 have := List.length_pos_iff.2 h
 show (it.stops.dropLast ++ [_] ++ [_]).length = _
 simp
 omega
theorem of_moves {n : Net} {nx : List NsC} {canc : List Int} {dst before : Int} {it it' : Itm} (h : Moves n nx canc dst before it it') : ∀ f : Nat, it.stops ≠ [] -> 20 < f + it.stops.length -> moveF n nx canc dst before (f + 1) it = some it' := by
 induction h with
 | stay h => intro f _ _; unfold moveF; rw [if_neg h]
 | go h h2 hm ih =>
  intro f hne hf
  unfold moveF
  rw [if_pos h, if_neg (by omega)]
  obtain ⟨f', rfl⟩ : ∃ f', f = f' + 1 := ⟨f - 1, by omega⟩
  exact ih f' (by unfold stepI decideI goneI; simp) (by rw [step_len hne]; omega)
theorem Moves.run {n : Net} {nx : List NsC} {canc : List Int} {dst before : Int} {it it' : Itm} (h : Moves n nx canc dst before it it') (hne : it.stops ≠ []) : moveF n nx canc dst before 21 it = some it' := of_moves h 20 hne (by have := List.length_pos_iff.2 hne; omega)
theorem step_dec (n : Net) (nx : List NsC) (canc : List Int) (dst : Int) (it : Itm) : (stepI n nx canc dst it).stops.dropLast = it.stops.dropLast ++ [{ lastSt it.stops with depart := it.leave, line := it.line }] := gone_dec it
theorem Moves.keep {n : Net} {nx : List NsC} {canc : List Int} {dst t : Int} {it x : Itm} (h : Moves n nx canc dst t it x) : ∀ s ∈ it.stops.dropLast, s ∈ x.stops.dropLast := by
 induction h with
 | stay _ => exact fun _ h => h
 | @go it _ _ _ _ ih =>
  refine fun s hs => ih s ?_
  rw [step_dec]
  exact List.mem_append_left _ hs
theorem Moves.until_ {n : Net} {nx : List NsC} {canc : List Int} {dst t u : Int} {it x : Itm} (h : Moves n nx canc dst u it x) (hx : x.line < 0) (hd : ∀ s ∈ x.stops.dropLast, s.depart < t) : Moves n nx canc dst t it x := by
 induction h with
 | stay h => exact .stay (fun e => by have := e.1; omega)
 | @go it _ h h2 hm ih =>
  refine .go ⟨h.1, ?_⟩ h2 (ih hx hd)
  have := hm.keep { lastSt it.stops with depart := it.leave, line := it.line } (by rw [step_dec]; exact List.mem_append_right _ (List.mem_singleton.2 rfl))
  exact hd _ this
theorem acts_ok {n : Net} {nx : List NsC} (hG : Good n) (hF : Formed n nx) : ∀ {ds bef : List Ded} {t : Int} {h a : Hst}, actsF n nx ds h = some a -> DedsOk n bef t ds -> 0 <= t -> t <= 1000000 -> HsOk n nx bef t h -> ∃ u, t <= u /\ u <= 1000000 /\ HsOk n nx (bef ++ ds) u a
 | [], bef, t, h, a, hr, _, _, ht, H => by
  cases hr
  rw [List.append_nil]
  exact ⟨t, Int.le_refl _, ht, H⟩
 | d :: ds, bef, t, h, a, hr, hd, h0, ht, H => by
  rw [actsF] at hr
  obtain ⟨d1, d2, d3, d4⟩ := hd
  cases hp : procF n nx h.canc d.time h.items h.items with
  | none => rw [hp] at hr; cases hr
  | some l =>
   rw [hp] at hr
   obtain ⟨b, -⟩ := H.proc hG hF d1 hp
   obtain ⟨u, u1, u2, u3⟩ := acts_ok hG hF hr d4 (by omega) d2 (b.act d3 (by omega) d2)
   rw [List.append_assoc] at u3
   exact ⟨u, by omega, u2, u3⟩
def trackI (it : Itm) : Itm := { it with holds := 0, line := -1, leave := 0 }
theorem procF_all {n : Net} {nx : List NsC} {canc : List Int} {u : Int} {all : List Itm} : ∀ {l l' : List Itm}, l'.length = l.length -> (∀ (i : Nat) (x y : Itm), l[i]? = some x -> l'[i]? = some y -> moveF n nx canc (toOf all x) u 21 x = some y) -> procF n nx canc u all l = some l'
 | [], [], _, _ => rfl
 | [], _ :: _, h, _ => by simp at h
 | _ :: _, [], h, _ => by simp at h
 | x :: l, y :: l', h, hm => by
  unfold procF
  rw [hm 0 x y rfl rfl]
  dsimp only
  rw [procF_all (l := l) (l' := l') (by simpa using h) (fun i a b ha hb => hm (i + 1) a b ha hb)]
  rfl
theorem hold_end {n : Net} {nx : List NsC} (hG : Good n) (hF : Formed n nx) {ds : List Ded} {h : Hst} (hr : runR n nx ds = some h) (hd : DedsOk n [] 0 ds) {d : Ded} (hk : d.kind = 3) (hl : ∀ it ∈ h.items, ∀ s ∈ it.stops.dropLast, s.depart < d.time) :
  ∃ g, runR n nx (ds ++ [d]) = some g /\ g.items.map trackI = h.items.map trackI := by
 obtain ⟨H, hneg⟩ := run_ok hG hF hr hd
 unfold runR at hr ⊢
 rw [runF_acts] at hr ⊢
 obtain ⟨a, ha, hr⟩ := Option.bind_eq_some_iff.1 hr
 obtain ⟨l, hl2, rfl⟩ := Option.map_eq_some_iff.1 hr
 obtain ⟨u, -, -, HA⟩ := acts_ok hG hF ha hd (by omega) (by omega) (hs_nil n nx)
 rw [actsF_app, ha]
 obtain ⟨p1, p2⟩ := procF_get hl2
 have hproc : procF n nx a.canc d.time a.items a.items = some l := procF_all p1 (fun i x y hx hy => by
  obtain ⟨y', hy', hm⟩ := p2 i x hx
  rw [hy] at hy'
  cases hy'
  have hyl := List.mem_of_getElem? hy
  exact ((moves_of hm).until_ (hneg _ hyl) (hl _ hyl)).run (path_ne (HA.item x (List.mem_of_getElem? hx)).path))
 have hact : actsF n nx [d] a = some ⟨l.map fun i => if i.post.label == d.label then holdI n i else i, a.canc⟩ := by
  rw [actsF, hproc]
  show some (actR n nx ⟨l, a.canc⟩ d) = _
  unfold actR
  rw [if_neg (by omega), if_neg (by omega), if_pos hk]
 have hline : ∀ it ∈ l, (if it.post.label == d.label then holdI n it else it).line < 0 /\ trackI (if it.post.label == d.label then holdI n it else it) = trackI it := fun it hi => by
  have h0 : it.line < 0 := hneg it hi
  split
  ·unfold holdI
   rw [if_pos h0]
   exact ⟨h0, rfl⟩
  ·exact ⟨h0, rfl⟩
 refine ⟨⟨l.map fun i => if i.post.label == d.label then holdI n i else i, a.canc⟩, ?_, ?_⟩
 ·show ((actsF n nx [d] a).bind _) = _
  rw [hact]
  show (procF n nx a.canc bigT _ _).map _ = _
  rw [procF_all (l := l.map fun i => if i.post.label == d.label then holdI n i else i) (l' := l.map fun i => if i.post.label == d.label then holdI n i else i) rfl (fun i x y hx hy => by
   rw [hx] at hy
   cases hy
   obtain ⟨it, hi, rfl⟩ := List.mem_map.1 (List.mem_of_getElem? hx)
   rw [moveF, if_neg (fun e => by have := (hline it hi).1; omega)])]
  rfl
 ·show List.map trackI (l.map _) = List.map trackI l
  rw [List.map_map]
  exact List.map_congr_left (fun it hi => (hline it hi).2)
structure SameT (a b : Trk) : Prop where
 post : a.post = b.post
 stops : a.stops = b.stops
 lost : a.lost = b.lost
 since : a.since = b.since
 labs : a.labs = b.labs
 seals : a.seals = b.seals
section
attribute [local go_sem] Oper.semAt_some
theorem sameTrack_refl (a b : Trk) (w : World) (h : SameT a b) (hA : TrkIn w a) (hB : TrkIn w b) (hs : a.Short) :
  Calls Tryz.prog 20 #[trkV a, trkV b] w fun e w' => e = .returned (.bool true) /\ Below w.heap.size w w' := by
 obtain ⟨⟨l, f, d, k, t⟩, st, lo, si, la, se, sA, sC, nA, nC, lA, lC, eA, eC⟩ := a
 obtain ⟨p', st', lo', si', la', se', sA', sC', nA', nC', lA', lC', eA', eC'⟩ := b
 obtain ⟨h1, h2, h3, h4, h5, h6⟩ := h
 simp only at h1 h2 h3 h4 h5 h6
 subst h1 h2 h3 h4 h5 h6
 obtain ⟨a1, a2, a3, a4⟩ := hA
 obtain ⟨b1, b2, b3, b4⟩ := hB
 obtain ⟨s1, s2, s3, s4⟩ := hs
 simp only at a1 a2 a3 a4 b1 b2 b3 b4 s1 s2 s3 s4
 have HA := Lib.hid (And.intro a1 (And.intro a2 (And.intro a3 a4)))
 have HB := Lib.hid (And.intro b1 (And.intro b2 (And.intro b3 b4)))
 have HS := Lib.hid (And.intro s1 (And.intro s2 (And.intro s3 s4)))
 clear a1 a2 a3 a4 b1 b2 b3 b4 s1 s2 s3 s4
 have e1 : (l == l) = true := by simp
 have e2 : (f == f) = true := by simp
 have e3 : (d == d) = true := by simp
 have e4 : (k == k) = true := by simp
 have e5 : (t == t) = true := by simp
 have e6 : (lo == lo) = true := by simp
 go_enter Tryz.func20, Tryz.ntmps20
 go_upto_region 1 with fail
 have hb5 := allocs_below [trkO ⟨⟨l, f, d, k, t⟩, st, lo, si, la, se, sA, sC, nA, nC, lA, lC, eA, eC⟩, trkO ⟨⟨l, f, d, k, t⟩, st, lo, si, la, se, sA', sC', nA', nC', lA', lC', eA', eC'⟩] w
 have hg5 := allocs_get [trkO ⟨⟨l, f, d, k, t⟩, st, lo, si, la, se, sA, sC, nA, nC, lA, lC, eA, eC⟩, trkO ⟨⟨l, f, d, k, t⟩, st, lo, si, la, se, sA', sC', nA', nC', lA', lC', eA', eC'⟩] w
 have q0 := hg5 0 _ rfl
 have q1 := hg5 1 _ rfl
 change Code.wp _ _ _ _ (allocs w [trkO ⟨⟨l, f, d, k, t⟩, st, lo, si, la, se, sA, sC, nA, nC, lA, lC, eA, eC⟩, trkO ⟨⟨l, f, d, k, t⟩, st, lo, si, la, se, sA', sC', nA', nC', lA', lC', eA', eC'⟩])
 generalize allocs w [trkO ⟨⟨l, f, d, k, t⟩, st, lo, si, la, se, sA, sC, nA, nC, lA, lC, eA, eC⟩, trkO ⟨⟨l, f, d, k, t⟩, st, lo, si, la, se, sA', sC', nA', nC', lA', lC', eA', eC'⟩] = V1 at *
 have HW : Hid (Below w.heap.size w V1) := hb5
 generalize w.heap.size = X at q0 q1 hb5 ⊢
 have HC : Hid (∀ V, Below V1.heap.size V1 V -> (V.cell? ⟨X, 0, none⟩ = some (sV l) /\ V.cell? ⟨X, 1, none⟩ = some (iV f) /\ V.cell? ⟨X, 2, none⟩ = some (iV d) /\ V.cell? ⟨X, 3, none⟩ = some (iV k) /\ V.cell? ⟨X, 4, none⟩ = some (iV t) /\ V.cell? ⟨X, 5, none⟩ = some (.slice sA st.length sC) /\ V.cell? ⟨X, 6, none⟩ = some (.bool lo) /\ V.cell? ⟨X, 7, none⟩ = some (.slice nA si.length nC) /\ V.cell? ⟨X, 8, none⟩ = some (.slice lA la.length lC) /\ V.cell? ⟨X, 9, none⟩ = some (.slice eA se.length eC)) /\ (V.cell? ⟨X + 1, 0, none⟩ = some (sV l) /\ V.cell? ⟨X + 1, 1, none⟩ = some (iV f) /\ V.cell? ⟨X + 1, 2, none⟩ = some (iV d) /\ V.cell? ⟨X + 1, 3, none⟩ = some (iV k) /\ V.cell? ⟨X + 1, 4, none⟩ = some (iV t) /\ V.cell? ⟨X + 1, 5, none⟩ = some (.slice sA' st.length sC') /\ V.cell? ⟨X + 1, 6, none⟩ = some (.bool lo) /\ V.cell? ⟨X + 1, 7, none⟩ = some (.slice nA' si.length nC') /\ V.cell? ⟨X + 1, 8, none⟩ = some (.slice lA' la.length lC') /\ V.cell? ⟨X + 1, 9, none⟩ = some (.slice eA' se.length eC'))) := fun V hb => by
  have k0 := (hb.block _ (block_lt q0)).trans q0
  have k1 := (hb.block _ (block_lt q1)).trans q1
  exact ⟨⟨cell_of_row _ _ 0 _ _ _ k0, cell_of_row _ _ 1 _ _ _ k0, cell_of_row _ _ 2 _ _ _ k0, cell_of_row _ _ 3 _ _ _ k0, cell_of_row _ _ 4 _ _ _ k0, cell_of_row _ _ 5 _ _ _ k0, cell_of_row _ _ 6 _ _ _ k0, cell_of_row _ _ 7 _ _ _ k0, cell_of_row _ _ 8 _ _ _ k0, cell_of_row _ _ 9 _ _ _ k0⟩, cell_of_row _ _ 0 _ _ _ k1, cell_of_row _ _ 1 _ _ _ k1, cell_of_row _ _ 2 _ _ _ k1, cell_of_row _ _ 3 _ _ _ k1, cell_of_row _ _ 4 _ _ _ k1, cell_of_row _ _ 5 _ _ _ k1, cell_of_row _ _ 6 _ _ _ k1, cell_of_row _ _ 7 _ _ _ k1, cell_of_row _ _ 8 _ _ _ k1, cell_of_row _ _ 9 _ _ _ k1⟩
 obtain ⟨⟨x0, x1, x2, x3, x4, x5, x6, x7, x8, x9⟩, y0, y1, y2, y3, y4, y5, y6, y7, y8, y9⟩ := HC.out V1 (Below.refl _ _)
 clear hb5 hg5 q0 q1
 go_wp2_with fail
 refine (stops_refl st sA sA' sC sC' V1 (HA.out.1.below HW.out) (HB.out.1.below HW.out) HS.out.1).mono ?_
 rintro e V2 ⟨rfl, hb⟩
 have HB2 := Lib.hid hb
 have HW2 : Hid (Below w.heap.size w V2) := HW.out.trans (hb.mono HW.out.size)
 clear hb x0 x1 x2 x3 x4 x5 x6 x7 x8 x9 y0 y1 y2 y3 y4 y5 y6 y7 y8 y9
 obtain ⟨⟨-, -, -, -, -, x5, x6, x7, x8, x9⟩, -, -, -, -, -, y5, y6, y7, y8, y9⟩ := HC.out V2 HB2.out
 go_wp2_with fail
 refine (ints_refl si nA nA' nC nC' V2 (HA.out.2.1.below HW2.out) (HB.out.2.1.below HW2.out) HS.out.2.1).mono ?_
 rintro e V3 ⟨rfl, hb⟩
 have HB3 := Lib.hid (bt HB2.out hb)
 have HW3 : Hid (Below w.heap.size w V3) := HW2.out.trans (hb.mono HW2.out.size)
 clear hb x5 x6 x7 x8 x9 y5 y6 y7 y8 y9
 obtain ⟨⟨-, -, -, -, -, x5, x6, x7, x8, x9⟩, -, -, -, -, -, y5, y6, y7, y8, y9⟩ := HC.out V3 HB3.out
 go_wp2_with fail
 refine (strs_refl la lA lA' lC lC' V3 (HA.out.2.2.1.below HW3.out) (HB.out.2.2.1.below HW3.out) HS.out.2.2.1).mono ?_
 rintro e V4 ⟨rfl, hb⟩
 have HB4 := Lib.hid (bt HB3.out hb)
 have HW4 : Hid (Below w.heap.size w V4) := HW3.out.trans (hb.mono HW3.out.size)
 clear hb x5 x6 x7 x8 x9 y5 y6 y7 y8 y9
 obtain ⟨⟨-, -, -, -, -, x5, x6, x7, x8, x9⟩, -, -, -, -, -, y5, y6, y7, y8, y9⟩ := HC.out V4 HB4.out
 go_wp2_with fail
 refine (strs_refl se eA eA' eC eC' V4 (HA.out.2.2.2.below HW4.out) (HB.out.2.2.2.below HW4.out) HS.out.2.2.2).mono ?_
 rintro e V5 ⟨rfl, hb⟩
 have HW5 : Hid (Below w.heap.size w V5) := HW4.out.trans (hb.mono HW4.out.size)
 clear hb x5 x6 x7 x8 x9 y5 y6 y7 y8 y9
 go_wp2_with fail
 go_ret
 exact ⟨rfl, HW5.out⟩
def SameL (xs ys : List Trk) : Prop := xs.length = ys.length /\ ∀ (i : Nat) (a b : Trk), xs[i]? = some a -> ys[i]? = some b -> SameT a b
theorem same_refl (xs ys : List Trk) (A B : Option Addr) (c c' : Nat) (w : World) (h : SameL xs ys) (hA : Rd w A (xs.flatMap encTr)) (hB : Rd w B (ys.flatMap encTr)) (tA : ∀ t ∈ xs, TrkIn w t) (tB : ∀ t ∈ ys, TrkIn w t) (hs : ∀ t ∈ xs, t.Short) (hl : xs.length <= 1000) :
  Calls Tryz.prog 17 #[.slice A xs.length c, .slice B ys.length c'] w fun e w' => e = .returned (.bool true) /\ Below w.heap.size w w' := by
 have HH := Lib.hid h
 have HA := Lib.hid hA
 have HB := Lib.hid hB
 have HTA := Lib.hid tA
 have HTB := Lib.hid tB
 have HSH := Lib.hid hs
 have hlen := h.1
 clear h hA hB tA tB hs
 rw [<- hlen]
 clear hlen
 have e1 : ((xs.length : Int) != (xs.length : Int)) = false := by simp
 go_enter Tryz.func17, Tryz.ntmps17
 go_wp2
 go_loopw [5] (fun i wr => ∃ k : Nat, k <= xs.length /\ i = iV k /\ Hid (Below w.heap.size w wr)) (fun i _ => xs.length + 1 - (intOf i).toNat)
 case atStart => exact ⟨0, by omega, rfl, Lib.hid (Below.refl _ _)⟩
 case round =>
  obtain ⟨k, hk, rfl, HW⟩ := hrel
  have k0 : (0 : Int) <= (k : Int) := by omega
  by_cases hlt : k < xs.length
  ·have HLT := Lib.hid hlt
   have k1 : (k : Int) < (xs.length : Int) := by omega
   obtain ⟨a, ha⟩ : ∃ a, xs[k]? = some a := ⟨_, List.getElem?_eq_getElem hlt⟩
   obtain ⟨b, hb⟩ : ∃ b, ys[k]? = some b := ⟨_, List.getElem?_eq_getElem (by have := HH.out.1; omega)⟩
   obtain ⟨-, ab, ao, hAA, -, x0, xj⟩ := elem_at encTr_len (HA.out.below HW.out) ha (by omega)
   obtain ⟨-, bb, bo, hBB, -, y0, yj⟩ := elem_at encTr_len (HB.out.below HW.out) hb (by have := HH.out.1; omega)
   have HSW : Hid (∀ w' : World, Below wr.heap.size wr w' -> (w'.cell? ⟨ab, ao + k * 10, none⟩ = some (sV a.post.label) /\ w'.cell? ⟨ab, ao + k * 10 + 1, none⟩ = some (iV a.post.frm) /\ w'.cell? ⟨ab, ao + k * 10 + 2, none⟩ = some (iV a.post.dst) /\ w'.cell? ⟨ab, ao + k * 10 + 3, none⟩ = some (iV a.post.cls) /\ w'.cell? ⟨ab, ao + k * 10 + 4, none⟩ = some (iV a.post.acc) /\ w'.cell? ⟨ab, ao + k * 10 + 5, none⟩ = some (.slice a.sA a.stops.length a.sC) /\ w'.cell? ⟨ab, ao + k * 10 + 6, none⟩ = some (.bool a.lost) /\ w'.cell? ⟨ab, ao + k * 10 + 7, none⟩ = some (.slice a.nA a.since.length a.nC) /\ w'.cell? ⟨ab, ao + k * 10 + 8, none⟩ = some (.slice a.lA a.labs.length a.lC) /\ w'.cell? ⟨ab, ao + k * 10 + 9, none⟩ = some (.slice a.eA a.seals.length a.eC) /\ w'.cell? ⟨bb, bo + k * 10, none⟩ = some (sV b.post.label) /\ w'.cell? ⟨bb, bo + k * 10 + 1, none⟩ = some (iV b.post.frm) /\ w'.cell? ⟨bb, bo + k * 10 + 2, none⟩ = some (iV b.post.dst) /\ w'.cell? ⟨bb, bo + k * 10 + 3, none⟩ = some (iV b.post.cls) /\ w'.cell? ⟨bb, bo + k * 10 + 4, none⟩ = some (iV b.post.acc) /\ w'.cell? ⟨bb, bo + k * 10 + 5, none⟩ = some (.slice b.sA b.stops.length b.sC) /\ w'.cell? ⟨bb, bo + k * 10 + 6, none⟩ = some (.bool b.lost) /\ w'.cell? ⟨bb, bo + k * 10 + 7, none⟩ = some (.slice b.nA b.since.length b.nC) /\ w'.cell? ⟨bb, bo + k * 10 + 8, none⟩ = some (.slice b.lA b.labs.length b.lC) /\ w'.cell? ⟨bb, bo + k * 10 + 9, none⟩ = some (.slice b.eA b.seals.length b.eC))) := fun w' hb =>
    ⟨cell_keepD hb (x0 _ rfl), cell_keepD hb (xj 1 _ rfl), cell_keepD hb (xj 2 _ rfl), cell_keepD hb (xj 3 _ rfl), cell_keepD hb (xj 4 _ rfl), cell_keepD hb (xj 5 _ rfl), cell_keepD hb (xj 6 _ rfl), cell_keepD hb (xj 7 _ rfl), cell_keepD hb (xj 8 _ rfl), cell_keepD hb (xj 9 _ rfl), cell_keepD hb (y0 _ rfl), cell_keepD hb (yj 1 _ rfl), cell_keepD hb (yj 2 _ rfl), cell_keepD hb (yj 3 _ rfl), cell_keepD hb (yj 4 _ rfl), cell_keepD hb (yj 5 _ rfl), cell_keepD hb (yj 6 _ rfl), cell_keepD hb (yj 7 _ rfl), cell_keepD hb (yj 8 _ rfl), cell_keepD hb (yj 9 _ rfl)⟩
   have HAB := Lib.hid (And.intro (HH.out.2 k a b ha hb) (And.intro (List.mem_of_getElem? ha) (List.mem_of_getElem? hb)))
   have HD : Hid (Below wr.heap.size wr wr.drew) := b_drew (Below.refl _ _)
   have HC : Hid (∀ W, Below wr.heap.size wr W -> Calls Tryz.prog 20 #[trkV a, trkV b] W fun e w' => e = .returned (.bool true) /\ Below W.heap.size W w') := fun W hb =>
    sameTrack_refl a b W HAB.out.1 ((HTA.out a HAB.out.2.1).below (HW.out.trans (hb.mono HW.out.size))) ((HTB.out b HAB.out.2.2).below (HW.out.trans (hb.mono HW.out.size))) (HSH.out a HAB.out.2.1)
   rw [hAA, hBB]
   clear x0 xj y0 yj ha hb hAA hBB hlt
   go_wp2_with fail
   go_region_held3 (fun w' => w'.cell? ⟨ab, ao + k * 10, none⟩ = some (sV a.post.label) /\ w'.cell? ⟨ab, ao + k * 10 + 1, none⟩ = some (iV a.post.frm) /\ w'.cell? ⟨ab, ao + k * 10 + 2, none⟩ = some (iV a.post.dst) /\ w'.cell? ⟨ab, ao + k * 10 + 3, none⟩ = some (iV a.post.cls) /\ w'.cell? ⟨ab, ao + k * 10 + 4, none⟩ = some (iV a.post.acc) /\ w'.cell? ⟨ab, ao + k * 10 + 5, none⟩ = some (.slice a.sA a.stops.length a.sC) /\ w'.cell? ⟨ab, ao + k * 10 + 6, none⟩ = some (.bool a.lost) /\ w'.cell? ⟨ab, ao + k * 10 + 7, none⟩ = some (.slice a.nA a.since.length a.nC) /\ w'.cell? ⟨ab, ao + k * 10 + 8, none⟩ = some (.slice a.lA a.labs.length a.lC) /\ w'.cell? ⟨ab, ao + k * 10 + 9, none⟩ = some (.slice a.eA a.seals.length a.eC) /\ w'.cell? ⟨bb, bo + k * 10, none⟩ = some (sV b.post.label) /\ w'.cell? ⟨bb, bo + k * 10 + 1, none⟩ = some (iV b.post.frm) /\ w'.cell? ⟨bb, bo + k * 10 + 2, none⟩ = some (iV b.post.dst) /\ w'.cell? ⟨bb, bo + k * 10 + 3, none⟩ = some (iV b.post.cls) /\ w'.cell? ⟨bb, bo + k * 10 + 4, none⟩ = some (iV b.post.acc) /\ w'.cell? ⟨bb, bo + k * 10 + 5, none⟩ = some (.slice b.sA b.stops.length b.sC) /\ w'.cell? ⟨bb, bo + k * 10 + 6, none⟩ = some (.bool b.lost) /\ w'.cell? ⟨bb, bo + k * 10 + 7, none⟩ = some (.slice b.nA b.since.length b.nC) /\ w'.cell? ⟨bb, bo + k * 10 + 8, none⟩ = some (.slice b.lA b.labs.length b.lC) /\ w'.cell? ⟨bb, bo + k * 10 + 9, none⟩ = some (.slice b.eA b.seals.length b.eC)) (first | (with_reducible exact HSW.out _ HD.out) | (with_reducible exact HSW.out _ HU1.out)) (first
    | (go_at_call 20; refine (HC.out _ HD.out).mono ?_; rintro e u1 ⟨rfl, hb1⟩; have HU1 := Lib.hid (bt HD.out hb1); clear hb1)
    | fail)
   have HW2 : Hid (Below w.heap.size w u1) := HW.out.trans (HU1.out.mono HW.out.size)
   go_wp2_with fail
   go_roundw
   case rel => exact ⟨k + 1, HLT.out, by go_num, HW2⟩
   case measure => have := HLT.out; simp [intOf]; omega
  ·have k1 : ¬ (k : Int) < (xs.length : Int) := by omega
   go_wp2
   go_ret
   exact ⟨rfl, HW.out⟩
end
end Go.Proofs.YtpeaiphdkgifaaaGreatDoor
