/- What holds of a history all the time, in plain Lean. The walk over -/
import Derived.Test.YtpeaiphdkgifaaaGreatDoorVaw
namespace Go.Proofs.YtpeaiphdkgifaaaGreatDoor
open Go.RowKit
set_option maxHeartbeats 20000000
set_option maxRecDepth 100000
theorem kv {n : Net} {nx : List NsC} {canc : List Int} {dst before : Int} {P : Itm -> Prop} (hstep : ∀ it, P it -> 0 <= it.line -> it.leave < before -> it.stops.length < 20 -> P (gy n nx canc dst it)) :
  ∀ {f : Nat} {it it' : Itm}, eX n nx canc dst before f it = some it' -> P it -> P it' /\ ¬ (0 <= it'.line /\ it'.leave < before)
 | 0, it, it', h, _ => by cases h
 | f + 1, it, it', h, hp => by
  unfold eX at h
  split at h
  ·rename_i g
   split at h
   ·cases h
   ·rename_i g2
    exact kv hstep h (hstep it hp g.1 g.2 (by omega))
  ·rename_i g
   cases h
   exact ⟨hp, g⟩
theorem jr {n : Net} {nx : List NsC} {canc : List Int} {before : Int} {all : List Itm} : ∀ {l l' : List Itm}, cK n nx canc before all l = some l' -> l'.length = l.length /\ ∀ (i : Nat) (it : Itm), l[i]? = some it -> ∃ it', l'[i]? = some it' /\ eX n nx canc (bw all it) before 21 it = some it'
 | [], l', h => by
  cases h
  exact ⟨rfl, fun i it hi => by simp at hi⟩
 | it :: l, l', h => by
  unfold cK at h
  split at h
  ·cases h
  ·rename_i x hx
   obtain ⟨m, hm, rfl⟩ := Option.map_eq_some_iff.1 h
   obtain ⟨h1, h2⟩ := jr hm
   refine ⟨by simp [h1], fun i jt hi => ?_⟩
   cases i with
   | zero =>
    simp at hi
    subst hi
    exact ⟨x, rfl, hx⟩
   | succ i => exact h2 i jt hi
theorem mo {n : Net} {nx : List NsC} {canc : List Int} {before : Int} {all l l' : List Itm} (h : cK n nx canc before all l = some l') {it' : Itm} (hm : it' ∈ l') : ∃ it ∈ l, eX n nx canc (bw all it) before 21 it = some it' := by
 obtain ⟨h1, h2⟩ := jr h
 obtain ⟨i, hi⟩ := List.getElem?_of_mem hm
 obtain ⟨it, hit⟩ : ∃ it, l[i]? = some it := ⟨_, aD (by have := (aE.1 hi).1; omega)⟩
 obtain ⟨x, hx, hmv⟩ := h2 i it hit
 rw [hi] at hx
 cases hx
 exact ⟨it, aF hit, hmv⟩
structure eZ (a b : Itm) : Prop where
 post : b.post = a.post
 lost : b.lost = a.lost
 since : b.since = a.since
 labs : b.labs = a.labs
theorem eZ.refl (a : Itm) : eZ a a := ⟨rfl, rfl, rfl, rfl⟩
theorem eZ.trans {a b c : Itm} (h : eZ a b) (k : eZ b c) : eZ a c := ⟨k.post.trans h.post, k.lost.trans h.lost, k.since.trans h.since, k.labs.trans h.labs⟩
theorem nz {n : Net} {nx : List NsC} {canc : List Int} {dst before : Int} {f : Nat} {it it' : Itm} (h : eX n nx canc dst before f it = some it') : eZ it it' :=
 (kv (P := fun x => eZ it x) (fun _ hx _ _ _ => hx.trans ⟨rfl, rfl, rfl, rfl⟩) h (eZ.refl it)).1
theorem lw {α β : Type} {f : α -> β} {l l' : List α} (h1 : l'.length = l.length) (h2 : ∀ (i : Nat) (x : α), l[i]? = some x -> ∃ y, l'[i]? = some y /\ f y = f x) : l'.map f = l.map f := by
 apply List.ext_getElem?
 intro i
 rw [aS, aS]
 by_cases hi : i < l.length
 ·obtain ⟨y, hy, e⟩ := h2 i l[i] (aD hi)
  rw [hy, aD hi]
  simp [e]
 ·rw [List.getElem?_eq_none (by omega), List.getElem?_eq_none (by omega)]
theorem rp {n : Net} {nx : List NsC} {canc : List Int} {before : Int} {all l l' : List Itm} (h : cK n nx canc before all l = some l') : l'.map (·.post) = l.map (·.post) := by
 obtain ⟨h1, h2⟩ := jr h
 exact lw h1 (fun i x hx => by
  obtain ⟨y, hy, hm⟩ := h2 i x hx
  exact ⟨y, hy, (nz hm).post⟩)
theorem ew {l l' : List Itm} (h : l'.map (·.post) = l.map (·.post)) (x : List UInt8) : bQ l' x = bQ l x := by
 have key : ∀ m : List Itm, bQ m x = (((m.map (·.post)).find? fun p => p.label == x).map (·.dst)).getD 0 := fun m => by
  unfold bQ
  rw [List.find?_map]
  simp [Function.comp_def]
 rw [key, key, h]
def qI (n : Net) (p : Pst) : Prop := gW p.label = true /\ (0 <= p.frm /\ p.frm < n.offs.length) /\ (0 <= p.dst /\ p.dst < n.offs.length) /\ (0 <= p.cls /\ p.cls < n.clss.length) /\ 0 <= p.acc /\ p.acc <= 1000000
structure ItT (t : Int) (it : Itm) : Prop where
 dep : ∀ s ∈ it.stops.dropLast, s.depart < t
 up : it.since.Pairwise (· <= ·)
 sin : ∀ s ∈ it.since, s <= t
 head : it.since.head? = some it.post.acc
theorem ItT.mono {t u : Int} {it : Itm} (h : ItT t it) (hu : t <= u) : ItT u it := ⟨fun s hs => by have := h.dep s hs; omega, h.up, fun s hs => by have := h.sin s hs; omega, h.head⟩
structure em (n : Net) (nx : List NsC) (bef : List Ded) (t : Int) (h : Hst) : Prop where
 posts : h.items.map (·.post) = (bef.filter fun d => d.kind == 1).map (·.post)
 nodup : (h.items.map fun i => i.post.label).Nodup
 pst : ∀ it ∈ h.items, qI n it.post
 item : ∀ it ∈ h.items, fL n it
 dec : ∀ it ∈ h.items, dF n nx h.canc (bw h.items it) it
 labs : ∀ it ∈ h.items, ∀ l ∈ it.labs, ∃ j ∈ h.items, j.post.label = l
 time : ∀ it ∈ h.items, ItT t it
theorem kH {it : Itm} (h : it.labs ≠ []) : bq it ∈ it.labs := by
 unfold bq
 rw [List.getLastD_eq_getLast?, List.getLast?_eq_some_getLast h]
 exact List.getLast_mem h
theorem uW {n : Net} {all : List Itm} (hp : ∀ it ∈ all, qI n it.post) {l : List UInt8} (h : ∃ j ∈ all, j.post.label = l) : 0 <= bQ all l /\ bQ all l < n.offs.length := by
 obtain ⟨j, hj, rfl⟩ := h
 unfold bQ
 cases hf : all.find? fun i => i.post.label == j.post.label with
 | none =>
  have := List.find?_eq_none.1 hf j hj
  simp at this
 | some x => exact (hp x (List.mem_of_find?_eq_some hf)).2.2.1
theorem em.dst {n : Net} {nx : List NsC} {bef : List Ded} {t : Int} {h : Hst} (H : em n nx bef t h) {it : Itm} (hi : it ∈ h.items) : 0 <= bw h.items it /\ bw h.items it < n.offs.length :=
 uW H.pst (H.labs it hi _ (kH (H.item it hi).labs.2))
theorem qh {n : Net} (it : Itm) : (cw n it).stops.dropLast = it.stops.dropLast ++ [{ aj it.stops with depart := it.leave, line := it.line }] := by
 unfold cw
 simp
theorem em.proc {n : Net} {nx : List NsC} {bef : List Ded} {t u : Int} {h : Hst} {l : List Itm} (hG : cY n) (hF : bi n nx) (H : em n nx bef t h) (hu : t <= u) (hp : cK n nx h.canc u h.items h.items = some l) :
  em n nx bef u ⟨l, h.canc⟩ /\ ∀ it ∈ l, ¬ (0 <= it.line /\ it.leave < u) := by
 have hps := rp hp
 have hto : ∀ x, bQ l x = bQ h.items x := ew hps
 have key : ∀ it' ∈ l, ∃ it ∈ h.items, eZ it it' /\ fL n it' /\ dF n nx h.canc (bw h.items it) it' /\ ItT u it' /\ ¬ (0 <= it'.line /\ it'.leave < u) := fun it' hm => by
  obtain ⟨it, hi, hmv⟩ := mo hp hm
  have hd := H.dst hi
  obtain ⟨⟨a1, a2, a3, a4⟩, a5⟩ := kv (P := fun x => eZ it x /\ fL n x /\ dF n nx h.canc (bw h.items it) x /\ ItT u x) (fun x ⟨b1, b2, b3, b4⟩ c1 c2 c3 => by
   have hg := qi hG hF b2 hd b3 c1 c3
   refine ⟨b1.trans ⟨rfl, rfl, rfl, rfl⟩, ⟨hg.path, hg.head, hg.len, hg.offs, hg.labs, hg.sin⟩, fu _ _ _ _ _, ⟨fun s hs => ?_, b4.up, b4.sin, b4.head⟩⟩
   have hs' : s ∈ (cw n x).stops.dropLast := hs
   rw [qh x] at hs'
   rcases List.mem_append.1 hs' with hs' | hs'
   ·exact b4.dep s hs'
   ·rw [aR.1 hs']
    exact c2) hmv ⟨eZ.refl it, H.item it hi, H.dec it hi, (H.time it hi).mono hu⟩
  exact ⟨it, hi, a1, a2, a3, a4, a5⟩
 refine ⟨⟨hps.trans H.posts, ?_, fun it' hm => ?_, fun it' hm => (key it' hm).choose_spec.2.2.1, fun it' hm => ?_, fun it' hm x hx => ?_, fun it' hm => (key it' hm).choose_spec.2.2.2.2.1⟩, fun it' hm => (key it' hm).choose_spec.2.2.2.2.2⟩
 ·have e : (l.map fun i => i.post.label) = (l.map (·.post)).map (·.label) := by simp
  show (l.map fun i => i.post.label).Nodup
  rw [e, hps]
  simpa [Function.comp_def] using H.nodup
 ·obtain ⟨it, hi, a1, -⟩ := key it' hm
  rw [a1.post]
  exact H.pst it hi
 ·obtain ⟨it, hi, a1, -, a3, -⟩ := key it' hm
  have : bw l it' = bw h.items it := by unfold bw; rw [hto]; unfold bq; rw [a1.labs]
  show dF n nx h.canc (bw l it') it'
  rw [this]
  exact a3
 ·obtain ⟨it, hi, a1, -⟩ := key it' hm
  obtain ⟨j, hj, e⟩ := H.labs it hi x (by rw [<- a1.labs]; exact hx)
  have : x ∈ (l.map (·.post)).map (·.label) := by
   rw [hps]
   exact List.mem_map.2 ⟨j.post, List.mem_map.2 ⟨j, hj, rfl⟩, e⟩
  obtain ⟨p, hp1, e2⟩ := List.mem_map.1 this
  obtain ⟨j2, hj2, rfl⟩ := List.mem_map.1 hp1
  exact ⟨j2, hj2, e2⟩
theorem ag {w w' : World} {p : Addr} {v : Value} (hb : Below w.heap.size w w') (h : w.cell? p = some v) : w'.cell? p = some v := (hb.cell (aM _ _ h)).trans h
theorem tab_at {n : Net} {nx : List NsC} {nxA : Option Addr} {W : World} (hT : Tab W nxA nx) (hF : bi n nx) {o d : Nat} (ho : o < n.offs.length) (hd : d < n.offs.length) :
  nx.length = n.offs.length /\ ∃ (r : NsC) (tb te rb ro : Nat), nxA = some (aV tb te) /\ r.A = some (aV rb ro) /\ r.ns.length = n.offs.length /\ W.cell? (aV tb (te + o)) = some (slI r) /\ W.cell? (aV rb (ro + d)) = some (iV (aX nx o d)) /\ tb < W.heap.size /\ rb < W.heap.size := by
 obtain ⟨r, hr, hrl, -⟩ := hF.2 o ho
 obtain ⟨tb, te, hA, ht, hc⟩ := hT.rd.get (i := o) (by rw [List.length_map, hF.1]; exact ho)
 obtain ⟨rb, ro, hB, hb, hd2⟩ := (hT.row r (aF hr)).1.get (i := d) (by rw [List.length_map, hrl]; exact hd)
 have hdl : d < r.ns.length := by omega
 have hl : r.ns[d] = aX nx o d := by unfold aX; simp [List.getD, hr, hdl]
 exact ⟨hF.1, r, tb, te, rb, ro, hA, hB, hrl, hc o _ (by rw [aS, hr]; rfl), hd2 d _ (by rw [aS, aD hdl, hl]; rfl), ht, hb⟩
theorem cD.last {base : Nat} {W : World} {it : Itm} {a : ItA} (h : cD base W it a) (h1 : 1 <= it.stops.length) : W.cell? (aV a.sB ((it.stops.length - 1) * 4)) = some (iV (aj it.stops).office) /\ W.cell? (aV a.sB ((it.stops.length - 1) * 4 + 1)) = some (iV (aj it.stops).arrive) := by
 have hg : it.stops[it.stops.length - 1]? = some (aj it.stops) := by
  unfold aj
  rw [List.getLastD_eq_getLast?, List.getLast?_eq_getElem?, aD (by omega)]
  rfl
 obtain ⟨-, b, o, hA, -, h0, hj⟩ := ay cH (cE h.st) hg (by omega)
 cases hA
 rw [Nat.zero_add] at h0 hj
 exact ⟨h0 _ rfl, hj 1 _ rfl⟩
theorem cD.sin {base : Nat} {W : World} {it : Itm} {a : ItA} (h : cD base W it a) (h1 : it.since ≠ []) : W.cell? (aV a.nB (it.since.length - 1)) = some (iV (gP it)) := by
 have hp := aL.2 h1
 have hl : it.since[it.since.length - 1]? = some (gP it) := by
  unfold gP
  rw [List.getLastD_eq_getLast?, List.getLast?_eq_getElem?, aD (by omega)]
  rfl
 obtain ⟨b, off, hA, -, hcc⟩ := (cE h.si).get (i := it.since.length - 1) (by simpa using by omega)
 cases hA
 have := hcc (it.since.length - 1) (iV (gP it)) (by rw [aS, hl]; rfl)
 rwa [Nat.zero_add] at this
theorem cD.idle {base : Nat} {W : World} {it : Itm} {a : ItA} (h : cD base W { it with line := -1 } a) (v : Int) : cD base W { it with line := -1, leave := v } a := by
 obtain ⟨lv, h1, -, h3⟩ := h.cells
 exact ⟨⟨lv, h1, fun e => absurd (show (0 : Int) <= -1 from e) (by decide), h3⟩, h.ge, h.st, h.si, h.la, h.se⟩
structure DlS (w W wr : World) (n : Net) (nx : List NsC) (nxA : Option Addr) (nxC : Nat) (h : Hst) (A : HsA) (it : Itm) (a : ItA) (lv : Int) : Prop where
 wd : WdH w wr n nx nxA nxC h A
 row : wr.heap[a.b]? = some (.cells (fQ it a lv) 103 (0, 0))
 chg : bz a.blks W wr
 lv : I64 lv
theorem DlS.below {w W wr wr' : World} {n : Net} {nx : List NsC} {nxA : Option Addr} {nxC : Nat} {h : Hst} {A : HsA} {it : Itm} {a : ItA} {lv : Int} (D : DlS w W wr n nx nxA nxC h A it a lv) (hb : Below wr.heap.size wr wr') : DlS w W wr' n nx nxA nxC h A it a lv :=
 ⟨D.wd.below hb, (hb.block _ (aa D.row)).trans D.row, D.chg.trans (bz.of_below hb) (fun _ hb => .inl hb), D.lv⟩
theorem DlS.leave {w W wr : World} {n : Net} {nx : List NsC} {nxA : Option Addr} {nxC : Nat} {h : Hst} {A : HsA} {it : Itm} {a : ItA} {lv : Int} (D : DlS w W wr n nx nxA nxC h A it a lv) {k : Nat} (h1 : h.items[k]? = some it) (h2 : A.its[k]? = some a) (hl : it.line = -1) {v : Int} (hv : I64 v) : DlS w W (wr.setCell (aV a.b 12) (iV v)) n nx nxA nxC h A it a v := by
 have hbl := D.wd.hs.blks h2
 have hs := (D.wd.hs.item k it a h1 h2).store (it' := it) (lv' := v) D.row hbl.1 (i := 12) (v := iV v) rfl rfl rfl rfl rfl ⟨hv, fun e => by rw [hl] at e; exact absurd e (by decide)⟩
 have hc : bz a.blks wr (wr.setCell (aV a.b 12) (iV v)) := dW _ _ _ (by simp [ItA.blks])
 refine ⟨?_, bE D.row 12 (iV v), D.chg.trans hc (fun _ hb => .inl hb), hv⟩
 have := D.wd.upd h1 h2 ⟨hs, hc, fun b hb => .inl hb, hbl.1, rfl⟩ rfl
 rw [cO h1, cO h2] at this
 exact this
theorem qa (n : Net) (l : Int) (c i : Nat) (t v : Int) (hi : i <= c) (h : eh n l t = (v, 0)) : bR n l (c - i) t = if i = c then some v else bR n l (c - (i + 1)) (v + 1) := by
 by_cases e : i = c
 ·subst e
  rw [Nat.sub_self, if_pos rfl]
  unfold bR
  rw [h, if_pos rfl]
 ·obtain ⟨m, hm⟩ : ∃ m, c - i = m + 1 := ⟨c - i - 1, by omega⟩
  have hm2 : c - (i + 1) = m := by omega
  rw [hm, if_neg e, hm2, bR, h, if_pos rfl]
theorem ue (n : Net) (l : Int) (c : Nat) (t : Int) (h : (eh n l t).2 ≠ 0) : bR n l c t = none := by
 cases c <;> simp [bR, h]
structure jl (n : Net) (h : Hst) (it : Itm) : Prop where
 st : 1 <= it.stops.length /\ it.stops.length <= 100
 of : 0 <= (aj it.stops).office /\ (aj it.stops).office < n.offs.length
 ar : 0 <= (aj it.stops).arrive /\ (aj it.stops).arrive <= 2200000
 la : it.labs ≠ [] /\ it.labs.length <= 100000
 si : it.since ≠ [] /\ it.since.length <= 100000
 sr : 0 <= gP it /\ gP it <= 1000000
 ca : (bq it).length <= 1000 /\ ∃ i ∈ h.items, i.post.label = bq it
 ds : 0 <= bw h.items it /\ bw h.items it < n.offs.length
 ho : it.holds <= 100000
theorem gq (w W : World) (n : Net) (nx : List NsC) (nxA : Option Addr) (nxC : Nat) (h : Hst) (A : HsA) (k : Nat) (it : Itm) (a : ItA) (hS : bM n) (hF : bi n nx) (H : WdH w W n nx nxA nxC h A) (h1 : h.items[k]? = some it) (h2 : A.its[k]? = some a) (hD : jl n h it) :
  Calls Tryz.prog 101 #[.pointer (some (aV A.hb 0)), .pointer (some (aV a.b 0))] W fun e W' => e = .returned (.tuple #[]) /\ dS w.heap.size W W' a a (aY n nx h.canc (bw h.items it) it) := by
 have hi := H.hs.item k it a h1 h2
 have hbl := H.hs.blks h2
 obtain ⟨lv, hlv, hlv2, hrow⟩ := hi.cells
 have f11 : W.frozen? (aV a.b 11) = false := ac hrow 11
 have f12 : W.frozen? (aV a.b 12) = false := ac hrow 12
 have c11 : W.cell? (aV a.b 11) = some (iV it.line) := aA 11 hrow
 go_enter Tryz.func101, Tryz.ntmps101
 go_upto_region 1 with fail
 have hs1 : cD w.heap.size (W.setCell (aV a.b 11) (iV (-1))) { it with line := -1 } a := hi.store hrow hbl.1 rfl rfl rfl rfl rfl ⟨hlv, fun h => absurd (show (0 : Int) <= -1 from h) (by decide)⟩
 have hrow1 : (W.setCell (aV a.b 11) (iV (-1))).heap[a.b]? = some (.cells (fQ { it with line := -1 } a lv) 103 (0, 0)) := bE hrow 11 (iV (-1))
 have hg1 : bz a.blks W (W.setCell (aV a.b 11) (iV (-1))) := dW _ _ _ (by simp [ItA.blks])
 have H1 : WdH w (W.setCell (aV a.b 11) (iV (-1))) n nx nxA nxC { h with items := h.items.set k { it with line := -1 } } A := by
  have := H.upd (it' := { it with line := -1 }) h1 h2 ⟨hs1, hg1, fun b hb => .inl hb, hbl.1, rfl⟩ rfl
  rwa [cO h2] at this
 generalize (W.setCell (aV a.b 11) (iV (-1))) = W1 at *
 have H1 := aB H1
 have HG1 := aB hg1
 have HR1 := aB hrow1
 have HI1 := aB hs1
 have HDW := aB hD
 have HIS := aB h1
 have HAS := aB h2
 have HBL := aB hbl
 have HFF := aB hF
 have HLV := aB hlv
 clear hs1 hrow1 hg1 H hi hbl hrow hlv2 f11 f12 c11 hD hF h1 h2 hlv
 go_wp2_with fail
 refine (qb w.heap.size { it with line := -1 } a _ HI1.out HDW.out.st.1 HDW.out.st.2).mono ?_
 rintro e w2 ⟨rfl, hb⟩
 have HB2 := aB hb
 clear hb
 have hps : (h.items.set k { it with line := -1 }).map (·.post) = h.items.map (·.post) := by
  apply List.ext_getElem?
  intro i
  rw [aS, aS, List.getElem?_set]
  by_cases hik : k = i
  ·subst hik
   rw [if_pos rfl, if_pos (aE.1 HIS.out).1, HIS.out]
   rfl
  ·rw [if_neg hik]
 obtain ⟨j, x, y, hx1, hx2, hx3, hx4, hx5⟩ := oH (h.items.set k { it with line := -1 }) A.its (bq it) H1.out.hs.len (by
  obtain ⟨i, hi, e⟩ := HDW.out.ca.2
  have hm : i.post ∈ (h.items.set k { it with line := -1 }).map (·.post) := by rw [hps]; exact List.mem_map_of_mem hi
  obtain ⟨i', hi', e'⟩ := List.mem_map.1 hm
  exact ⟨i', hi', by rw [e', e]⟩)
 have hxd : x.post.dst = bw h.items it := (qW hx5).symm.trans (ew hps _)
 have hyi := H1.out.hs.item j x y hx1 hx2
 have hlk : ∀ W', Below W1.heap.size W1 W' -> (Instr.lookup 92 (.map (some A.nm)) (sV (bq it)) false).run Tryz.prog W' = .ok (.pointer (some (aV y.b 0))) W' := fun W' hb => by
  have := (H1.out.hs.nam.below hb).look vX Tryz.underlying92 (sd W') (kx (bq it) (by have := HDW.out.ca.1; unfold maxLen; omega)) false
  rw [this]
  simp only [lO, hx4]
  rfl
 obtain ⟨o, ho⟩ : ∃ o : Nat, (aj it.stops).office = (o : Int) := ⟨_, (Int.toNat_of_nonneg HDW.out.of.1).symm⟩
 obtain ⟨d, hd⟩ : ∃ d : Nat, bw h.items it = (d : Int) := ⟨_, (Int.toNat_of_nonneg HDW.out.ds.1).symm⟩
 have hoN : o < n.offs.length := by have := HDW.out.of.2; omega
 have hdN : d < n.offs.length := by have := HDW.out.ds.2; omega
 obtain ⟨hnl, r, tb, te, rb, ro, hA1, hA2, hrl, ht1, ht2, -, -⟩ := tab_at H1.out.tab HFF.out hoN hdN
 obtain ⟨-, ob, oo, hoA, -, hoc0, hoc⟩ := ay cQ H1.out.net.offs (bd hoN) (by omega)
 obtain ⟨hl0, hl1⟩ := HI1.out.last HDW.out.st.1
 have hl2 := HI1.out.sin HDW.out.si.1
 obtain ⟨lv2, -, -, hy⟩ := hyi.cell
 have hy2 := hy 2 _ rfl
 have hrow := HR1.out
 have HST : Hid (∀ W', Below W1.heap.size W1 W' -> W'.cell? (aV A.hb 3) = some (.slice (some (aV ob oo)) n.offs.length n.offC) /\ W'.cell? (aV A.hb 6) = some (.slice (some (aV tb te)) nx.length nxC) /\ W'.cell? (aV A.hb 8) = some (.map (some A.nm)) /\ W'.cell? (aV A.hb 9) = some (.map (some A.cm)) /\ W'.cell? (aV a.b 6) = some (.bool it.lost) /\ W'.cell? (aV a.b 7) = some (.slice (some (aV a.nB 0)) it.since.length a.nC) /\ W'.cell? (aV a.b 10) = some (iV it.holds) /\ W'.cell? (aV a.sB ((it.stops.length - 1) * 4)) = some (iV o) /\ W'.cell? (aV a.sB ((it.stops.length - 1) * 4 + 1)) = some (iV (aj it.stops).arrive) /\ W'.cell? (aV y.b 2) = some (iV d) /\ W'.cell? (aV tb (te + o)) = some (.slice (some (aV rb ro)) r.ns.length r.c) /\ W'.cell? (aV rb (ro + d)) = some (iV (aX nx o d)) /\ W'.cell? (aV a.nB (it.since.length - 1)) = some (iV (gP it))) := fun W' hb =>
  ⟨ag hb (H1.out.hs.cell (by rw [<- hoA]; rfl)), ag hb (H1.out.hs.cell (by rw [<- hA1]; rfl)), ag hb (H1.out.hs.cell rfl), ag hb (H1.out.hs.cell rfl), ag hb (aA 6 hrow), ag hb (aA 7 hrow), ag hb (aA 10 hrow), ag hb (by rw [<- ho]; exact hl0), ag hb hl1, ag hb (by rw [<- hd, <- hxd]; exact hy2), ag hb (by rw [ht1]; unfold slI; rw [hA2]), ag hb ht2, ag hb hl2⟩
 have HX := aB (⟨hx1, hx2, hxd, hyi⟩ : (h.items.set k { it with line := -1 })[j]? = some x /\ A.its[j]? = some y /\ x.post.dst = bw h.items it /\ cD w.heap.size W1 x y)
 have HO := aB ho
 have HE := aB hd
 have HON := aB hoN
 have HDN := aB hdN
 have HNL := aB hnl
 have HRL := aB hrl
 have HLK := aB hlk
 have HOC := aB (⟨hoc0, hoc⟩ : (∀ v, (jb (ap n o))[0]? = some v -> W1.cell? (aV ob (oo + o * 7)) = some v) /\ ∀ j v, (jb (ap n o))[j]? = some v -> W1.cell? (aV ob (oo + o * 7 + j)) = some v)
 clear hx1 hx2 hx3 hx4 hx5 hxd hyi hlk ho hd hoN hdN hnl hrl hA1 hA2 ht1 ht2 hoA hoc0 hoc hl0 hl1 hl2 hy hy2 hrow hps
 go_upto_region 2 with fail
 obtain ⟨c3, c6, c8, c9, d6, d7, d10, l0, l1, y2, t1, t2, s1⟩ := HST.out _ (al HB2.out)
 have HCA : Hid (∀ W', Below W1.heap.size W1 W' -> Calls Tryz.prog 146 #[.pointer (some (aV a.b 0))] W' fun e w' => e = .returned (sV (bq it)) /\ Below W'.heap.size W' w') := fun W' hb => jf w.heap.size { it with line := -1 } a W' (HI1.out.below hb) HDW.out.la.1 HDW.out.la.2
 go_region_held3 (fun w' => w'.cell? (aV A.hb 8) = some (.map (some A.nm)) /\ w'.cell? (aV y.b 2) = some (iV d)) (first | (with_reducible exact ⟨(HST.out _ (al HB2.out)).2.2.1, (HST.out _ (al HB2.out)).2.2.2.2.2.2.2.2.2.1⟩) | (with_reducible exact ⟨(HST.out _ HB3.out).2.2.1, (HST.out _ HB3.out).2.2.2.2.2.2.2.2.2.1⟩)) (first
  | (go_at_call 146; refine (HCA.out _ (al HB2.out)).mono ?_; rintro e w3 ⟨rfl, hb⟩; have HB3 := aB (bt (al HB2.out) hb); have hlk3 := HLK.out _ HB3.out; clear hb)
  | fail)
 clear c3 c6 c8 c9 d6 d7 d10 l0 l1 y2 t1 t2 s1 hlk3
 obtain ⟨c3, c6, c8, c9, d6, d7, d10, l0, l1, y2, t1, t2, s1⟩ := HST.out _ HB3.out
 have HIDLE : Hid (∀ W', cD w.heap.size W' { it with line := -1 } a -> bz a.blks W W' -> fv n nx h.canc (bw h.items it) it = (-1, 0) -> dS w.heap.size W W' a a (aY n nx h.canc (bw h.items it) it)) := fun W' p1 p2 p3 => by
  refine ⟨?_, p2, fun b hb => .inl hb, HBL.out.1, rfl⟩
  unfold aY
  rw [p3]
  exact p1.idle 0
 have HQ3 : Hid (∀ W', Below W1.heap.size W1 W' -> cD w.heap.size W' { it with line := -1 } a /\ bz a.blks W W') := fun W' hb => ⟨HI1.out.below hb, HG1.out.trans (bz.of_below hb) (fun b hb => .inl hb)⟩
 by_cases hlo : it.lost = true
 ·rw [hlo] at d6
  have hdec : fv n nx h.canc (bw h.items it) it = (-1, 0) := by unfold fv; rw [if_pos (.inl hlo)]
  have HDEC := aB hdec
  clear hdec hlo
  go_wp2_with fail
  exact bodyPost_ret (results_none rfl _ _ _) rfl ⟨rfl, HIDLE.out _ (HQ3.out _ HB3.out).1 (HQ3.out _ HB3.out).2 HDEC.out⟩
 have hlo' : it.lost = false := by simpa using hlo
 rw [hlo'] at d6
 by_cases hod : o = d
 ·have hdec : fv n nx h.canc (bw h.items it) it = (-1, 0) := by unfold fv; rw [if_pos (.inr (by rw [HO.out, HE.out, hod]))]
  have HDEC := aB hdec
  subst hod
  clear hdec hlo hlo'
  go_wp2_with fail
  exact bodyPost_ret (results_none rfl _ _ _) rfl ⟨rfl, HIDLE.out _ (HQ3.out _ HB3.out).1 (HQ3.out _ HB3.out).2 HDEC.out⟩
 have hodB : ((o : Int) == (d : Int)) = false := by
  rw [aU]
  omega
 have hne : ¬ (it.lost = true ∨ (aj it.stops).office = bw h.items it) := by
  rw [HO.out, HE.out]
  rintro (e | e)
  ·exact hlo e
  ·omega
 have hdd : fv n nx h.canc (bw h.items it) it = if aX nx o d < 0 ∨ aX nx o d ∈ h.canc then (-1, 0) else
   match bR n (aX nx o d) it.holds (eP n it) with
   | some v => (aX nx o d, v)
   | none => (-1, 0) := by
  unfold fv
  rw [if_neg hne, HO.out, HE.out, Int.toNat_natCast, Int.toNat_natCast]
  cases bR n (aX nx o d) it.holds (eP n it) <;> rfl
 have HDD := aB hdd
 clear hlo hlo' hod hdd hne
 have hoN := HON.out
 have hdN := HDN.out
 have hnl := HNL.out
 have hrl := HRL.out
 have j1 : (0 : Int) <= (o : Int) := by omega
 have j2 : (o : Int) < (nx.length : Int) := by omega
 have j3 : (0 : Int) <= (d : Int) := by omega
 have j4 : (d : Int) < (r.ns.length : Int) := by omega
 have hln := kP HFF.out hoN hdN
 have HLN := aB hln
 clear hoN hdN hnl hrl hln
 generalize nx.length = NL at c6 j2
 generalize r.ns.length = RL at t1 j4
 generalize aX nx o d = l at *
 go_upto_region 4 with fail
 go_quiet (fail)
 have HB5 : Hid (Below W1.heap.size W1 (w3.drewN nq)) := ai HB3.out nq
 change Exit.then _ _ _ _ (w3.drewN nq)
 generalize (w3.drewN nq) = w5 at *
 clear c3 c6 c8 c9 d6 d7 d10 l0 l1 y2 t1 t2 s1 j1 j2 j3 j4
 obtain ⟨c3, c6, c8, c9, d6, d7, d10, l0, l1, y2, t1, t2, s1⟩ := HST.out _ HB5.out
 have hlk5 : (Instr.lookup 93 (.map (some A.cm)) (iV l) false).run Tryz.prog w5 = .ok (.bool (decide (l ∈ h.canc))) w5 := by
  obtain ⟨m, hm⟩ := H1.out.hs.can
  have hl : I64 l := by rcases HLN.out with e | ⟨e1, e2, -⟩ <;> unfold I64 <;> have := hS.1.good.few <;> omega
  rw [(hm.below HB5.out).look ky Tryz.underlying93 (pf w5) (dD l hl) false]
  show _ = Result.ok (Value.bool (decide (l ∈ h.canc))) w5
  congr 1
  show (mS h.canc l).getD _ = _
  unfold mS
  by_cases e : l ∈ h.canc <;> simp [e]
 by_cases hneg : l < 0
 ·have hdec : fv n nx h.canc (bw h.items it) it = (-1, 0) := by rw [HDD.out, if_pos (.inl hneg)]
  have HDEC := aB hdec
  clear hdec
  go_wp2_with fail
  exact bodyPost_ret (results_none rfl _ _ _) rfl ⟨rfl, HIDLE.out _ (HQ3.out _ HB5.out).1 (HQ3.out _ HB5.out).2 HDEC.out⟩
 by_cases hcan : l ∈ h.canc
 ·have hdec : fv n nx h.canc (bw h.items it) it = (-1, 0) := by rw [HDD.out, if_pos (.inr hcan)]
  have HDEC := aB hdec
  have e : decide (l ∈ h.canc) = true := decide_eq_true hcan
  rw [e] at hlk5
  clear hdec e hcan
  go_wp2_with fail
  exact bodyPost_ret (results_none rfl _ _ _) rfl ⟨rfl, HIDLE.out _ (HQ3.out _ HB5.out).1 (HQ3.out _ HB5.out).2 HDEC.out⟩
 have e : decide (l ∈ h.canc) = false := decide_eq_false hcan
 rw [e] at hlk5
 have hdd := HDD.out
 rw [if_neg (by rintro (x | x) <;> contradiction)] at hdd
 have HDE := aB hdd
 have HNEG := aB hneg
 clear e hcan HDD hdd
 go_wp2_with fail
 clear c3 c6 c8 c9 d6 d7 d10 l1 y2 t1 t2 s1 hlk5
 have c3 := (HST.out _ HB5.out).1
 have o0 : w5.cell? (aV ob (oo + o * 7)) = some (sV (ap n o).name) := ag HB5.out (HOC.out.1 _ rfl)
 have o1 : w5.cell? (aV ob (oo + o * 7 + 1)) = some (iV (ap n o).op) := ag HB5.out (HOC.out.2 1 _ rfl)
 have o2 : w5.cell? (aV ob (oo + o * 7 + 2)) = some (iV (ap n o).cal) := ag HB5.out (HOC.out.2 2 _ rfl)
 have o3 : w5.cell? (aV ob (oo + o * 7 + 3)) = some (iV (ap n o).pockets) := ag HB5.out (HOC.out.2 3 _ rfl)
 have o4 : w5.cell? (aV ob (oo + o * 7 + 4)) = some (iV (ap n o).passes) := ag HB5.out (HOC.out.2 4 _ rfl)
 have o5 : w5.cell? (aV ob (oo + o * 7 + 5)) = some (iV (ap n o).minutes) := ag HB5.out (HOC.out.2 5 _ rfl)
 have o6 : w5.cell? (aV ob (oo + o * 7 + 6)) = some (.slice (ap n o).cA (ap n o).codes.length (ap n o).cc) := ag HB5.out (HOC.out.2 6 _ rfl)
 have hbz := ba w5 (.cells #[.string ⟨#[]⟩, iV 0, iV 0, iV 0, iV 0, iV 0, .slice none 0 0] 54)
 have hzn := aC w5 (.cells #[.string ⟨#[]⟩, iV 0, iV 0, iV 0, iV 0, iV 0, .slice none 0 0] 54)
 have m3 : (w5.alloc (.cells #[.string ⟨#[]⟩, iV 0, iV 0, iV 0, iV 0, iV 0, .slice none 0 0] 54)).cell? (aV A.hb 3) = some (.slice (some (aV ob oo)) n.offs.length n.offC) := ag hbz c3
 have k0 : (w5.alloc (.cells #[.string ⟨#[]⟩, iV 0, iV 0, iV 0, iV 0, iV 0, .slice none 0 0] 54)).cell? (aV a.sB ((it.stops.length - 1) * 4)) = some (iV o) := ag hbz l0
 have q0 : (w5.alloc (.cells #[.string ⟨#[]⟩, iV 0, iV 0, iV 0, iV 0, iV 0, .slice none 0 0] 54)).cell? (aV ob (oo + o * 7)) = some (sV (ap n o).name) := ag hbz o0
 have q1 : (w5.alloc (.cells #[.string ⟨#[]⟩, iV 0, iV 0, iV 0, iV 0, iV 0, .slice none 0 0] 54)).cell? (aV ob (oo + o * 7 + 1)) = some (iV (ap n o).op) := ag hbz o1
 have q2 : (w5.alloc (.cells #[.string ⟨#[]⟩, iV 0, iV 0, iV 0, iV 0, iV 0, .slice none 0 0] 54)).cell? (aV ob (oo + o * 7 + 2)) = some (iV (ap n o).cal) := ag hbz o2
 have q3 : (w5.alloc (.cells #[.string ⟨#[]⟩, iV 0, iV 0, iV 0, iV 0, iV 0, .slice none 0 0] 54)).cell? (aV ob (oo + o * 7 + 3)) = some (iV (ap n o).pockets) := ag hbz o3
 have q4 : (w5.alloc (.cells #[.string ⟨#[]⟩, iV 0, iV 0, iV 0, iV 0, iV 0, .slice none 0 0] 54)).cell? (aV ob (oo + o * 7 + 4)) = some (iV (ap n o).passes) := ag hbz o4
 have q5 : (w5.alloc (.cells #[.string ⟨#[]⟩, iV 0, iV 0, iV 0, iV 0, iV 0, .slice none 0 0] 54)).cell? (aV ob (oo + o * 7 + 5)) = some (iV (ap n o).minutes) := ag hbz o5
 have q6 : (w5.alloc (.cells #[.string ⟨#[]⟩, iV 0, iV 0, iV 0, iV 0, iV 0, .slice none 0 0] 54)).cell? (aV ob (oo + o * 7 + 6)) = some (.slice (ap n o).cA (ap n o).codes.length (ap n o).cc) := ag hbz o6
 have z0 : (w5.alloc (.cells #[.string ⟨#[]⟩, iV 0, iV 0, iV 0, iV 0, iV 0, .slice none 0 0] 54)).cell? (aV w5.heap.size 0) = some (.string ⟨#[]⟩) := aA 0 hzn
 have z1 : (w5.alloc (.cells #[.string ⟨#[]⟩, iV 0, iV 0, iV 0, iV 0, iV 0, .slice none 0 0] 54)).cell? (aV w5.heap.size 1) = some (iV 0) := aA 1 hzn
 have z2 : (w5.alloc (.cells #[.string ⟨#[]⟩, iV 0, iV 0, iV 0, iV 0, iV 0, .slice none 0 0] 54)).cell? (aV w5.heap.size 2) = some (iV 0) := aA 2 hzn
 have z3 : (w5.alloc (.cells #[.string ⟨#[]⟩, iV 0, iV 0, iV 0, iV 0, iV 0, .slice none 0 0] 54)).cell? (aV w5.heap.size 3) = some (iV 0) := aA 3 hzn
 have z4 : (w5.alloc (.cells #[.string ⟨#[]⟩, iV 0, iV 0, iV 0, iV 0, iV 0, .slice none 0 0] 54)).cell? (aV w5.heap.size 4) = some (iV 0) := aA 4 hzn
 have z5 : (w5.alloc (.cells #[.string ⟨#[]⟩, iV 0, iV 0, iV 0, iV 0, iV 0, .slice none 0 0] 54)).cell? (aV w5.heap.size 5) = some (iV 0) := aA 5 hzn
 have z6 : (w5.alloc (.cells #[.string ⟨#[]⟩, iV 0, iV 0, iV 0, iV 0, iV 0, .slice none 0 0] 54)).cell? (aV w5.heap.size 6) = some (.slice none 0 0) := aA 6 hzn
 have y0 : (w5.alloc (.cells #[.string ⟨#[]⟩, iV 0, iV 0, iV 0, iV 0, iV 0, .slice none 0 0] 54)).frozen? (aV w5.heap.size 0) = false := ac hzn 0
 have y1 : (w5.alloc (.cells #[.string ⟨#[]⟩, iV 0, iV 0, iV 0, iV 0, iV 0, .slice none 0 0] 54)).frozen? (aV w5.heap.size 1) = false := ac hzn 1
 have y2 : (w5.alloc (.cells #[.string ⟨#[]⟩, iV 0, iV 0, iV 0, iV 0, iV 0, .slice none 0 0] 54)).frozen? (aV w5.heap.size 2) = false := ac hzn 2
 have y3 : (w5.alloc (.cells #[.string ⟨#[]⟩, iV 0, iV 0, iV 0, iV 0, iV 0, .slice none 0 0] 54)).frozen? (aV w5.heap.size 3) = false := ac hzn 3
 have y4 : (w5.alloc (.cells #[.string ⟨#[]⟩, iV 0, iV 0, iV 0, iV 0, iV 0, .slice none 0 0] 54)).frozen? (aV w5.heap.size 4) = false := ac hzn 4
 have y5 : (w5.alloc (.cells #[.string ⟨#[]⟩, iV 0, iV 0, iV 0, iV 0, iV 0, .slice none 0 0] 54)).frozen? (aV w5.heap.size 5) = false := ac hzn 5
 have y6 : (w5.alloc (.cells #[.string ⟨#[]⟩, iV 0, iV 0, iV 0, iV 0, iV 0, .slice none 0 0] 54)).frozen? (aV w5.heap.size 6) = false := ac hzn 6
 have hoN := HON.out
 have j1 : (0 : Int) <= (o : Int) := by omega
 have j2 : (o : Int) < (n.offs.length : Int) := by omega
 have HZN := aB hzn
 have HGO := aB (hS.1.good.off _ (aF (bd hoN)))
 clear hoN hbz hzn hneg
 generalize hof : ap n o = of at *
 have HOF := aB hof
 clear hof
 generalize n.offs.length = NO at c3 m3 j2
 go_upto_region 6 with fail
 go_region
 have HYR : Hid (((w5.alloc (.cells #[sV of.name, iV of.op, iV of.cal, iV of.pockets, iV of.passes, iV of.minutes, .slice of.cA of.codes.length of.cc] 54)).drew).heap[w5.heap.size]? = some (.cells #[sV of.name, iV of.op, iV of.cal, iV of.pockets, iV of.passes, iV of.minutes, .slice of.cA of.codes.length of.cc] 54 (0, 0))) := aC _ _
 have HB7 : Hid (Below W1.heap.size W1 ((w5.alloc (.cells #[sV of.name, iV of.op, iV of.cal, iV of.pockets, iV of.passes, iV of.minutes, .slice of.cA of.codes.length of.cc] 54)).drew)) := al (bt HB5.out (ba _ _))
 change Exit.then _ _ _ _ ((w5.alloc (.cells #[sV of.name, iV of.op, iV of.cal, iV of.pockets, iV of.passes, iV of.minutes, .slice of.cA of.codes.length of.cc] 54)).drew)
 clear c3 m3 l0 k0 o0 o1 o2 o3 o4 o5 o6 q0 q1 q2 q3 q4 q5 q6 z0 z1 z2 z3 z4 z5 z6 y0 y1 y2 y3 y4 y5 y6 HZN j1 j2
 generalize ((w5.alloc (.cells #[sV of.name, iV of.op, iV of.cal, iV of.pockets, iV of.passes, iV of.minutes, .slice of.cA of.codes.length of.cc] 54)).drew) = w7 at *
 generalize w5.heap.size = X at *
 have x4 : w7.cell? (aV X 4) = some (iV of.passes) := aA 4 HYR.out
 have x5 : w7.cell? (aV X 5) = some (iV of.minutes) := aA 5 HYR.out
 obtain ⟨-, -, -, -, -, d7, -, -, l1, -, -, -, s1⟩ := HST.out _ HB7.out
 have hp := aL.2 HDW.out.si.1
 have hq := HDW.out.si.2
 generalize it.since.length = SL at *
 obtain ⟨-, g1, g2, g3, g4⟩ := HGO.out
 obtain ⟨g5, g6⟩ := HDW.out.ar
 have hm1 : 0 <= of.passes * of.minutes := Int.mul_nonneg (by omega) (by omega)
 have hm2 : of.passes * of.minutes <= 4 * 240 := Int.mul_le_mul g2 g4 (by omega) (by omega)
 have e1 : IntKind.i64.wrap (of.passes * of.minutes) = of.passes * of.minutes := aO _ (by omega)
 have e2 : IntKind.i64.wrap ((aj it.stops).arrive + of.passes * of.minutes) = (aj it.stops).arrive + of.passes * of.minutes := aO _ (by omega)
 have e3 : IntKind.i64.wrap ((SL : Int) - 1) = (SL : Int) - 1 := aO _ (by omega)
 have e4 : ((SL : Int) - 1).toNat = SL - 1 := by omega
 have e5 : 0 <= (SL : Int) - 1 := by omega
 have e6 : (SL : Int) - 1 < (SL : Int) := by omega
 have HM := aB (⟨hm1, hm2⟩ : 0 <= of.passes * of.minutes /\ of.passes * of.minutes <= 4 * 240)
 clear hp hq g1 g2 g3 g4 g5 g6 hm1 hm2
 go_upto_region 7 with fail
 go_cut [8] from 9 to 129 (fun t wx => t = iV (eP n it) /\ wx = w7.drew)
 case first =>
  go_region
  have ht0 : (if (aj it.stops).arrive + of.passes * of.minutes < gP it then gP it else (aj it.stops).arrive + of.passes * of.minutes) = eP n it := by
   unfold eP
   rw [HO.out, Int.toNat_natCast, HOF.out]
   unfold ax
   omega
  rw [ht0]
  clear ht0
  go_wp2_with fail
  go_meet
  exact ⟨rfl, rfl⟩
 case rest =>
 obtain ⟨rfl, rfl⟩ := hcut
 have HD8 : Hid (DlS w W w7.drew n nx nxA nxC { h with items := h.items.set k { it with line := -1 } } A { it with line := -1 } a lv) := aB ((⟨H1.out, HR1.out, HG1.out, HLV.out⟩ : DlS w W W1 n nx nxA nxC { h with items := h.items.set k { it with line := -1 } } A { it with line := -1 } a lv).below (al HB7.out))
 have HIS2 : Hid ((h.items.set k { it with line := -1 })[k]? = some { it with line := -1 }) := aB (by rw [List.getElem?_set, if_pos rfl, if_pos (aE.1 HIS.out).1])
 obtain ⟨-, -, -, -, -, -, dx, -⟩ := HST.out _ (al HB7.out)
 clear x4 x5 d7 l1 s1 e1 e2 e3 e4 e5 e6 hodB HST HB7 HYR H1 HB5 HB3 HB2 HX HM
 have hho := HDW.out.ho
 have e1 : IntKind.i64.wrap ((it.holds : Int) + 1) = (it.holds : Int) + 1 := aO _ (by omega)
 have HHO := aB hho
 clear hho
 go_wp2_with fail
 go_loopw [8, 9, 10, 105] (fun t _ _ i wr => ∃ (T : Int) (I : Nat) (V : Int), t = iV T /\ i = iV I /\ Hid (I <= it.holds /\ bR n l it.holds (eP n it) = bR n l (it.holds - I) T ∨ I = it.holds + 1 /\ bR n l it.holds (eP n it) = some V) /\ Hid (DlS w W wr n nx nxA nxC { h with items := h.items.set k { it with line := -1 } } A { it with line := -1 } a V)) (fun _ _ _ i _ => it.holds + 2 - (intOf i).toNat)
 case atStart => exact ⟨_, 0, lv, rfl, rfl, aB (.inl ⟨Nat.zero_le _, rfl⟩), HD8⟩
 case round =>
 obtain ⟨T, I, V, rfl, rfl, HI, HD⟩ := hrel
 have hI : I <= it.holds + 1 := by rcases HI.out with ⟨e, -⟩ | ⟨e, -⟩ <;> omega
 have j0 : (0 : Int) <= (I : Int) := by omega
 by_cases hlt : I <= it.holds
 case neg =>
  have j1 : ¬ (I : Int) < (it.holds : Int) + 1 := by omega
  have hlv : bR n l it.holds (eP n it) = some V := by
   rcases HI.out with ⟨e, -⟩ | ⟨-, e⟩
   ·exact absurd e hlt
   ·exact e
  have hfr : wr.frozen? (aV a.b 11) = false := ac HD.out.row 11
  have c11 : wr.cell? (aV a.b 11) = some (iV (-1)) := aA 11 HD.out.row
  have HLE := aB hlv
  clear hlv hlt hI dx
  go_wp2_with fail
  refine bodyPost_end (results_none rfl _ _ _) rfl ⟨rfl, ?_⟩
  have hdec : fv n nx h.canc (bw h.items it) it = (l, V) := by rw [HDE.out, HLE.out]
  have hbl := HD.out.wd.hs.blks HAS.out
  have hst := (HD.out.wd.hs.item k _ _ HIS2.out HAS.out).store (it' := { it with line := l, leave := V }) (lv' := V) HD.out.row hbl.1 (i := 11) (v := iV l) rfl rfl rfl rfl rfl ⟨HD.out.lv, fun _ => rfl⟩
  refine ⟨?_, HD.out.chg.trans (dW _ _ _ (by simp [ItA.blks])) (fun _ hb => .inl hb), fun b hb => .inl hb, hbl.1, rfl⟩
  unfold aY
  rw [hdec]
  exact hst
 have j1 : (I : Int) < (it.holds : Int) + 1 := by omega
 have HLT := aB hlt
 clear hlt hI dx
 have c0 : wr.cell? (aV A.hb 0) = some (.slice n.calA n.cals.length n.calC) := HD.out.wd.hs.cell rfl
 have c1 : wr.cell? (aV A.hb 1) = some (.slice n.namA n.names.length n.namC) := HD.out.wd.hs.cell rfl
 have c2 : wr.cell? (aV A.hb 2) = some (.slice n.opA n.ops.length n.opC) := HD.out.wd.hs.cell rfl
 have c3 : wr.cell? (aV A.hb 3) = some (.slice n.offA n.offs.length n.offC) := HD.out.wd.hs.cell rfl
 have c4 : wr.cell? (aV A.hb 4) = some (.slice n.linA n.lins.length n.linC) := HD.out.wd.hs.cell rfl
 have c5 : wr.cell? (aV A.hb 5) = some (.slice n.clsA n.clss.length n.clsC) := HD.out.wd.hs.cell rfl
 go_wp2_with fail
 have h1 : l < (n.lins.length : Int) := by
  rcases HLN.out with e | ⟨-, e, -⟩
  ·have := HNEG.out; omega
  ·exact e
 refine (pB n l T _ HD.out.wd.net HD.out.wd.kw hS HNEG.out h1).mono ?_
 rintro e w9 ⟨rfl, hb⟩
 have HD9 := aB (HD.out.below hb)
 obtain ⟨v, er, hve⟩ : ∃ v er, eh n l T = (v, er) := ⟨_, _, rfl⟩
 rw [hve]
 have HVE := aB hve
 have HL1 := aB h1
 clear c0 c1 c2 c3 c4 c5 hb hve h1
 by_cases her : er = 0
 case neg =>
  have hno : bR n l it.holds (eP n it) = none := by
   have := HLT.out
   rcases HI.out with ⟨-, e⟩ | ⟨e, -⟩
   ·rw [e]
    exact ue n l _ T (by rw [HVE.out]; exact her)
   ·omega
  have hdec : fv n nx h.canc (bw h.items it) it = (-1, 0) := by rw [HDE.out, hno]
  have HDEC := aB hdec
  clear hno hdec
  go_wp2_with fail
  exact bodyPost_ret (results_none rfl _ _ _) rfl ⟨rfl, HIDLE.out _ (HD9.out.wd.hs.item k _ _ HIS2.out HAS.out) HD9.out.chg HDEC.out⟩
 subst her
 have hv := kD hS.1.good HNEG.out HL1.out HVE.out
 have hvr : 0 <= v /\ v <= 2090000 := by omega
 have HV := aB hvr
 have e2 : IntKind.i64.wrap (v + 1) = v + 1 := aO _ (by omega)
 have e3 : IntKind.i64.wrap ((I : Int) + 1) = (I : Int) + 1 := aO _ (by have := HHO.out; have := HLT.out; omega)
 have hfr : w9.frozen? (aV a.b 12) = false := ac HD9.out.row 12
 have c12 : w9.cell? (aV a.b 12) = some (iV V) := aA 12 HD9.out.row
 clear hv hvr
 go_wp2_with fail
 go_roundw
 case rel =>
  refine ⟨v + 1, I + 1, v, rfl, by go_num, ?_, aB (HD9.out.leave HIS2.out HAS.out rfl (by have := HV.out; unfold I64; omega))⟩
  have hlt := HLT.out
  have hs := qa n l it.holds I T v hlt HVE.out
  refine aB ?_
  rcases HI.out with ⟨-, e⟩ | ⟨e, -⟩
  ·by_cases hIe : I = it.holds
   ·rw [if_pos hIe] at hs
    exact .inr ⟨by omega, e.trans hs⟩
   ·rw [if_neg hIe] at hs
    exact .inl ⟨by omega, e.trans hs⟩
  ·omega
 case measure => have := HLT.out; simp [intOf]; omega
abbrev kF (d : Ded) : Value := .agg #[iV d.kind, iV d.time, sV d.post.label, iV d.post.frm, iV d.post.dst, iV d.post.cls, iV d.post.acc, sV d.label, sV d.other, iV d.line]
abbrev an (d : Ded) : Obj := .cells #[iV d.kind, iV d.time, sV d.post.label, iV d.post.frm, iV d.post.dst, iV d.post.cls, iV d.post.acc, sV d.label, sV d.other, iV d.line] 44
theorem WdH.look {w W : World} {n : Net} {nx : List NsC} {nxA : Option Addr} {nxC : Nat} {h : Hst} {A : HsA} (H : WdH w W n nx nxA nxC h A) {l : List UInt8} (hl : l.length <= 1000) (hi : ∃ i ∈ h.items, i.post.label = l) :
  ∃ (k : Nat) (it : Itm) (a : ItA), h.items[k]? = some it /\ A.its[k]? = some a /\ it.post.label = l /\ jH h.items l = some it /\ ∀ W', Below W.heap.size W W' -> (Instr.lookup 92 (.map (some A.nm)) (sV l) false).run Tryz.prog W' = .ok (.pointer (some (aV a.b 0))) W' := by
 obtain ⟨j, x, y, h1, h2, h3, h4, h5⟩ := oH h.items A.its l H.hs.len hi
 refine ⟨j, x, y, h1, h2, h3, h5, fun W' hb => ?_⟩
 have := (H.hs.nam.below hb).look vX Tryz.underlying92 (sd W') (kx l (by unfold maxLen; omega)) false
 rw [this]
 simp only [lO, h4]
 rfl
theorem fS {items : List Itm} {k : Nat} {it it' : Itm} (h : items[k]? = some it) (hp : it'.post = it.post) : (items.set k it').map (·.post) = items.map (·.post) := by
 apply List.ext_getElem?
 intro i
 rw [aS, aS, List.getElem?_set]
 by_cases hik : k = i
 ·subst hik
  rw [if_pos rfl, if_pos (aE.1 h).1, h]
  simp [hp]
 ·rw [if_neg hik]
theorem kT {l l' : List Itm} (h : l'.map (·.post) = l.map (·.post)) {x : List UInt8} (hx : ∃ i ∈ l, i.post.label = x) : ∃ i ∈ l', i.post.label = x := by
 obtain ⟨i, hi, e⟩ := hx
 have hm : i.post ∈ l'.map (·.post) := by rw [h]; exact List.mem_map_of_mem hi
 obtain ⟨i', hi', e'⟩ := List.mem_map.1 hm
 exact ⟨i', hi', by rw [e', e]⟩
theorem map_set {items : List Itm} {k : Nat} {it : Itm} {l : List UInt8} (hn : (items.map fun i => i.post.label).Nodup) (h : items[k]? = some it) (hl : it.post.label = l) (f : Itm -> Itm) : (items.map fun i => if i.post.label == l then f i else i) = items.set k (f it) := by
 apply List.ext_getElem?
 intro i
 rw [aS, List.getElem?_set]
 by_cases hik : k = i
 ·subst hik
  rw [if_pos rfl, if_pos (aE.1 h).1, h]
  simp [hl]
 ·rw [if_neg hik]
  cases hi : items[i]? with
  | none => rfl
  | some x =>
   have hne : x.post.label ≠ l := fun e => hik (by
    obtain ⟨g1, e1⟩ := aE.1 h
    obtain ⟨g2, e2⟩ := aE.1 hi
    refine (List.getElem_inj (h₀ := by simpa using g1) (h₁ := by simpa using g2) hn).1 ?_
    simp [e1, e2, hl, e])
   simp [hne]
theorem vL (w W : World) (n : Net) (nx : List NsC) (nxA : Option Addr) (nxC : Nat) (h : Hst) (A : HsA) (d : Ded) (hS : bM n) (hF : bi n nx) (H : WdH w W n nx nxA nxC h A) (hD : ∀ it ∈ h.items, jl n h it) (hn : (h.items.map fun i => i.post.label).Nodup) (hl : d.label.length <= 1000) (hi : ∃ i ∈ h.items, i.post.label = d.label) (hk : d.kind = 2) :
  Calls Tryz.prog 95 #[.pointer (some (aV A.hb 0)), kF d] W fun e W' => e = .returned (.tuple #[]) /\ WdH w W' n nx nxA nxC (dR n nx h d) A := by
 have hb0 : Below W.heap.size W (W.alloc (an d)).drew := al (ba W (an d))
 have hx0 : (W.alloc (an d)).drew.heap[W.heap.size]? = some (an d) := aC W (an d)
 have H0 := H.below hb0
 obtain ⟨k, it, a, h1, h2, h3, h4, hlk⟩ := H0.look hl hi
 have hDi := hD it (aF h1)
 have hit := H0.hs.item k it a h1 h2
 have hbl := H0.hs.blks h2
 obtain ⟨lv, hlv, hlv2, hrow⟩ := hit.cells
 have c8 : (W.alloc (an d)).drew.cell? (aV A.hb 8) = some (.map (some A.nm)) := H0.hs.cell rfl
 have c7 : (W.alloc (an d)).drew.cell? (aV W.heap.size 7) = some (sV d.label) := aA 7 hx0
 have c6 : (W.alloc (an d)).drew.cell? (aV a.b 6) = some (.bool it.lost) := aA 6 hrow
 have f6 : (W.alloc (an d)).drew.frozen? (aV a.b 6) = false := ac hrow 6
 have hlk0 := hlk _ (aJ _ _)
 have hs1 : cD w.heap.size ((W.alloc (an d)).drew.setCell (aV a.b 6) (.bool true)) { it with lost := true } a := hit.store hrow hbl.1 rfl rfl rfl rfl rfl ⟨hlv, hlv2⟩
 have hg1 : bz a.blks (W.alloc (an d)).drew ((W.alloc (an d)).drew.setCell (aV a.b 6) (.bool true)) := dW _ _ _ (by simp [ItA.blks])
 have H1 : WdH w ((W.alloc (an d)).drew.setCell (aV a.b 6) (.bool true)) n nx nxA nxC { h with items := h.items.set k { it with lost := true } } A := by
  have := H0.upd (it' := { it with lost := true }) h1 h2 ⟨hs1, hg1, fun b hb => .inl hb, hbl.1, rfl⟩ rfl
  rwa [cO h2] at this
 have hps := fS (it' := { it with lost := true }) h1 rfl
 have hg : (h.items.set k { it with lost := true })[k]? = some { it with lost := true } := by rw [List.getElem?_set, if_pos rfl, if_pos (aE.1 h1).1]
 have hto : bw (h.items.set k { it with lost := true }) { it with lost := true } = bw h.items it := ew hps _
 have hD1 : jl n { h with items := h.items.set k { it with lost := true } } { it with lost := true } := ⟨hDi.st, hDi.of, hDi.ar, hDi.la, hDi.si, hDi.sr, ⟨hDi.ca.1, kT hps hDi.ca.2⟩, by rw [hto]; exact hDi.ds, hDi.ho⟩
 have HCD : Hid (∀ W', Below ((W.alloc (an d)).drew.setCell (aV a.b 6) (.bool true)).heap.size ((W.alloc (an d)).drew.setCell (aV a.b 6) (.bool true)) W' -> Calls Tryz.prog 101 #[.pointer (some (aV A.hb 0)), .pointer (some (aV a.b 0))] W' fun e W'' => e = .returned (.tuple #[]) /\ WdH w W'' n nx nxA nxC (dR n nx h d) A) := fun W' hb => by
  refine (gq w W' n nx nxA nxC _ A k _ a hS hF (H1.below hb) hg h2 hD1).mono ?_
  rintro e W'' ⟨rfl, hs⟩
  refine ⟨rfl, ?_⟩
  have h6 := (H1.below hb).upd hg h2 hs rfl
  rw [cO h2] at h6
  have e : dR n nx h d = { h with items := (h.items.set k { it with lost := true }).set k (aY n nx h.canc (bw (h.items.set k { it with lost := true }) { it with lost := true }) { it with lost := true }) } := by
   unfold dR
   rw [if_neg (by omega), if_pos hk, map_set hn h1 h3, List.set_set, hto]
  rw [e]
  exact h6
 clear hs1 hg1 H1 hps hg hto hD1 H0 H hx0 hb0 hDi hit hbl hrow hlv hlv2 hlk h1 h2 h3 h4 hi hl hn hD hk
 go_enter Tryz.func95, Tryz.ntmps95
 go_upto_region 1 with fail
 go_region
 go_wp2_with fail
 refine (HCD.out _ (aJ _ _)).mono ?_
 rintro e w3 ⟨rfl, hw⟩
 have HW := aB hw
 clear hw
 go_wp2_with fail
 exact bodyPost_end (results_none rfl _ _ _) rfl ⟨rfl, HW.out⟩
end Go.Proofs.YtpeaiphdkgifaaaGreatDoor
