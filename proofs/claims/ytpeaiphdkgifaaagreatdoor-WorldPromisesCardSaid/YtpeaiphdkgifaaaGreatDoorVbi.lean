/- Bounds on a history's items, in plain Lean; and the deeds, each -/
import Derived.Test.YtpeaiphdkgifaaaGreatDoorVbb
import Derived.Test.YtpeaiphdkgifaaaGreatDoorVay
import Derived.Test.YtpeaiphdkgifaaaGreatDoorVaz
import Derived.Test.YtpeaiphdkgifaaaGreatDoorVax
import Derived.Test.YtpeaiphdkgifaaaGreatDoorVqWldSwap
import Derived.Test.YtpeaiphdkgifaaaGreatDoorVbc
import Derived.Test.YtpeaiphdkgifaaaGreatDoorVbd
namespace Go.Proofs.YtpeaiphdkgifaaaGreatDoor
open Go.RowKit
set_option maxHeartbeats 20000000
set_option maxRecDepth 100000
def iN (k : Nat) (h : Hst) : Prop := ∀ it ∈ h.items, it.holds <= k /\ it.labs.length <= k + 1
theorem iN.mono {k m : Nat} {h : Hst} (H : iN k h) (hm : k <= m) : iN m h := fun it hi => ⟨aG (H it hi).1 hm, by have := (H it hi).2; omega⟩
theorem iN.proc {n : Net} {nx : List NsC} {k : Nat} {h : Hst} {u : Int} {l : List Itm} (H : iN k h) (hp : cK n nx h.canc u h.items h.items = some l) : iN k ⟨l, h.canc⟩ := fun it' hm => by
 obtain ⟨it, hi, hmv⟩ := mo hp hm
 have h1 := kv (P := fun x => x.holds <= k) (fun x _ _ _ _ => Nat.zero_le k) hmv (H it hi).1
 exact ⟨h1.1, by rw [(nz hmv).labs]; exact (H it hi).2⟩
theorem wj (n : Net) (it : Itm) : (dO n it).holds <= it.holds + 1 /\ (dO n it).labs = it.labs := by
 unfold dO
 split
 ·exact ⟨aH _, rfl⟩
 split
 ·exact ⟨aH _, rfl⟩
 ·exact ⟨aH _, rfl⟩
theorem iN.act {k : Nat} {h : Hst} (n : Net) (nx : List NsC) (d : Ded) (H : iN k h) : iN (k + 1) (dR n nx h d) := by
 have hmap (f : Itm -> Itm) (c : List Int) (hf : ∀ it, (f it).holds <= it.holds + 1 /\ (f it).labs.length <= it.labs.length + 1) : iN (k + 1) ⟨h.items.map f, c⟩ := fun it hi => by
  obtain ⟨x, hx, rfl⟩ := List.mem_map.1 hi
  have := H x hx
  have := hf x
  omega
 unfold dR
 split
 ·intro it hi
  rcases List.mem_append.1 hi with hi | hi
  ·exact H.mono (Nat.le_succ k) it hi
  ·rw [aR.1 hi]
   exact ⟨Nat.zero_le _, Nat.succ_le_succ (Nat.zero_le _)⟩
 split
 ·refine hmap _ _ (fun it => ?_)
  split
  ·exact ⟨Nat.le_succ _, Nat.le_succ _⟩
  ·exact ⟨Nat.le_succ _, Nat.le_succ _⟩
 split
 ·refine hmap _ _ (fun it => ?_)
  split
  ·have := wj n it
   exact ⟨this.1, by rw [this.2]; exact Nat.le_succ _⟩
  ·exact ⟨Nat.le_succ _, Nat.le_succ _⟩
 split
 ·split
  ·split
   ·refine hmap _ _ (fun it => ?_)
    unfold u7
    split
    ·exact ⟨Nat.le_succ _, by show (it.labs ++ [_]).length <= _; simp⟩
    split
    ·exact ⟨Nat.le_succ _, by show (it.labs ++ [_]).length <= _; simp⟩
    ·exact ⟨Nat.le_succ _, Nat.le_succ _⟩
   ·exact H.mono (Nat.le_succ k)
  ·exact H.mono (Nat.le_succ k)
 ·refine hmap _ _ (fun it => ?_)
  split
  ·exact ⟨Nat.le_succ _, Nat.le_succ _⟩
  ·exact ⟨Nat.le_succ _, Nat.le_succ _⟩
section
variable {n : Net} {nx : List NsC} {bef : List Ded} {t : Int} {h : Hst}
theorem em.few (H : em n nx bef t h) : h.items.length <= bef.length := by
 have := congrArg List.length H.posts
 rw [List.length_map, List.length_map] at this
 rw [this]
 exact List.length_filter_le _ _
theorem sH {l : List UInt8} (h : gW l = true) : l.length <= 20 := by
 unfold gW at h
 simp only [Bool.and_eq_true, decide_eq_true_eq] at h
 exact h.2
theorem mB {α : Type} {l : List α} (h : l ≠ []) (d : α) : l.getLastD d ∈ l := by
 rw [List.getLastD_eq_getLast?, List.getLast?_eq_some_getLast h]
 exact List.getLast_mem h
theorem em.decW (H : em n nx bef t h) {k : Nat} (hb : iN k h) (hk : k <= 900) {it : Itm} (hi : it ∈ h.items) : jl n h it := by
 have a := H.item it hi
 have hne := fP a.path
 have hls := a.offs (aj it.stops) (by unfold aj; exact mB hne _)
 have hlb := a.labs
 have hb2 := hb it hi
 have hsn : it.since ≠ [] := by
  intro e
  rw [e] at hlb
  exact hlb.2 (List.length_eq_zero_iff.1 hlb.1.symm)
 have hca := H.labs it hi (bq it) (mB hlb.2 _)
 obtain ⟨j, hj, hje⟩ := hca
 exact ⟨⟨aL.2 hne, by have := a.len; omega⟩, ⟨hls.1, hls.2.1⟩, ⟨hls.2.2.1, by have := hls.2.2.2; omega⟩, ⟨hlb.2, by omega⟩, ⟨hsn, by omega⟩, a.sin _ (mB hsn _),
  ⟨by rw [<- hje]; exact aG (sH (H.pst j hj).1) (by decide), j, hj, hje⟩, H.dst hi, by omega⟩
theorem em.ok3 (H : em n nx bef t h) {k : Nat} (hb : iN k h) (hk : k <= 900) : ∀ x ∈ h.items, fL n x /\ dF n nx h.canc (bw h.items x) x /\ jl n h x := fun x hx => ⟨H.item x hx, H.dec x hx, H.decW hb hk hx⟩
end
def lL (k : Int) : FuncId := if k = 1 then 94 else if k = 2 then 95 else if k = 3 then 96 else if k = 4 then 97 else 98
theorem mC {n : Net} {nx : List NsC} {bef : List Ded} {t : Int} {h : Hst} (H : em n nx bef t h) {l : List UInt8} (hl : l ∈ bD bef) : l.length <= 1000 /\ ∃ i ∈ h.items, i.post.label = l := by
 obtain ⟨a, ha, he, -⟩ := H.find hl
 exact ⟨by rw [<- he]; exact aG (sH (H.pst a ha).1) (by decide), a, ha, he⟩
theorem act_any (w W : World) (n : Net) (nx : List NsC) (nxA : Option Addr) (nxC : Nat) (h : Hst) (A : HsA) (bef : List Ded) (d : Ded) (hS : bM n) (hG : cY n) (hF : bi n nx) (H : WdH w W n nx nxA nxC h A) (hok : em n nx bef d.time h) (hd : iK n bef d) (hb : iN 50 h) (hl : h.items.length <= 50) (ht : 0 <= d.time /\ d.time <= 1000000) :
  uO A.hb d.kind = some (.func (.func (lL d.kind)) #[.pointer (some (aV A.hb 0))] #[]) /\ (∀ args W, (callFunc (lL d.kind) args).run Tryz.prog W = .ok (.enter (lL d.kind) args) W) /\
  Calls Tryz.prog (lL d.kind) #[.pointer (some (aV A.hb 0)), kF d] W fun e W' => e = .returned (.tuple #[]) /\ ∃ A', WdH w W' n nx nxA nxC (dR n nx h d) A' /\ A'.core = A.core := by
 have hD : ∀ it ∈ h.items, jl n h it := fun it hi => hok.decW hb (by decide) hi
 rcases hd with ⟨hk, h1, h2, h3, h4, h5, h6⟩ | ⟨hk, h1⟩ | ⟨hk, h1, h2, h3⟩ | ⟨hk, h1, h2⟩
 ·rw [show lL d.kind = 94 by rw [hk]; rfl]
  refine ⟨by rw [hk]; rfl, fun _ _ => rfl, ?_⟩
  exact vu w W n nx nxA nxC h A d hS hF H ⟨h1, h3, h4, h5, by omega, by omega⟩ (by rw [hok.labels]; exact h2) (by omega) hk
 ·obtain ⟨g1, g2⟩ := mC hok h1
  rcases hk with hk | hk
  ·rw [show lL d.kind = 95 by rw [hk]; rfl]
   refine ⟨by rw [hk]; rfl, fun _ _ => rfl, ?_⟩
   exact (vL w W n nx nxA nxC h A d hS hF H hD hok.nodup g1 g2 hk).mono (fun _ _ ⟨a, b⟩ => ⟨a, A, b, rfl⟩)
  ·rw [show lL d.kind = 96 by rw [hk]; rfl]
   refine ⟨by rw [hk]; rfl, fun _ _ => rfl, ?_⟩
   refine (wt w W n nx nxA nxC h A d hS H (fun it hi => ?_) hok.nodup g1 g2 hk).mono (fun _ _ ⟨a, b⟩ => ⟨a, A, b, rfl⟩)
   have h9 := nR hG hF (hok.item it hi) (hok.dst hi) (hok.dec it hi)
   refine ⟨by have := (hb it hi).1; omega, h9.1, fun e => ?_⟩
   have := h9.2 e
   exact ⟨this.1, this.2.1, by omega⟩
 ·obtain ⟨g1, g2⟩ := mC hok h1
  obtain ⟨k1, k2⟩ := mC hok h2
  rw [show lL d.kind = 97 by rw [hk]; rfl]
  refine ⟨by rw [hk]; rfl, fun _ _ => rfl, ?_⟩
  refine u6 w W n nx nxA nxC h A d hS hF H hD (fun it hi => ?_) ht hok.nodup ⟨g1, k1⟩ g2 k2 h3 hk
  have := (hb it hi).2
  have := (hok.item it hi).labs.1
  exact ⟨by omega, by omega⟩
 ·rw [show lL d.kind = 98 by rw [hk]; rfl]
  refine ⟨by rw [hk]; rfl, fun _ _ => rfl, ?_⟩
  have hfw : n.lins.length <= 100000 := by have := hS.1.good.few; omega
  exact (rR w W n nx nxA nxC h A d H (by unfold I64; omega) (by omega) hk).mono (fun _ _ ⟨a, b⟩ => ⟨a, A, b, rfl⟩)
theorem WdH.keep {w W : World} {n : Net} {nx : List NsC} {nxA : Option Addr} {nxC : Nat} {h : Hst} {A : HsA} (H : WdH w W n nx nxA nxC h A) {b : Nat} {o : Obj} (hb : w.heap.size <= b) (ho : W.heap[b]? = some o) (hn : b ∉ A.all) : WdH w W n nx nxA nxC h { A with eb := b, ev := o } := by
 have hnd : ({ A with eb := b, ev := o } : HsA).all.Nodup := by
  have h0 := H.hs.nodup
  simp only [HsA.all, HsA.own, List.cons_append, List.nil_append, List.nodup_cons, List.mem_cons, not_or] at h0 hn ⊢
  obtain ⟨⟨a1, a2, a3, a4, a5⟩, ⟨b1, b2, b3, b4⟩, ⟨c1, c2, c3⟩, ⟨d1, d2⟩, e1, e2⟩ := h0
  obtain ⟨f1, f2, f3, f4, f5, f6⟩ := hn
  exact ⟨⟨a1, a2, a3, fun e => f1 e.symm, a5⟩, ⟨b1, b2, fun e => f2 e.symm, b4⟩, ⟨c1, fun e => f3 e.symm, c3⟩, ⟨fun e => f4 e.symm, d2⟩, f6, e2⟩
 exact ⟨H.old, ⟨H.hs.blk, H.hs.ge, H.hs.len, H.hs.row, H.hs.nam, H.hs.can, H.hs.act, ⟨hb, ho⟩, H.hs.item, hnd⟩, H.bel⟩
theorem ot {n : Net} {nx : List NsC} {ds : List Ded} {k : Nat} {h0 h : Hst} {d : Ded} (hk : ei n nx (ds.take k) h0 = some h) (hd : ds[k]? = some d) :
  ei n nx (ds.take (k + 1)) h0 = match cK n nx h.canc d.time h.items h.items with | none => none | some l => some (dR n nx { h with items := l } d) := by
 rw [List.take_add_one, hd, lc, hk]
 show ei n nx [d] h = _
 rw [ei]
 cases cK n nx h.canc d.time h.items h.items with
 | none => rfl
 | some l => rfl
theorem uN {n : Net} {nx : List NsC} {ds : List Ded} {k : Nat} (h : ei n nx (ds.take k) ⟨[], []⟩ = none) : cX n nx ds = none := by
 unfold cX
 rw [gQ, show ei n nx ds ⟨[], []⟩ = none by rw [<- List.take_append_drop k ds, lc, h]; rfl]
 rfl
theorem qF {n : Net} {nx : List NsC} {ds : List Ded} {h : Hst} (hk : ei n nx (ds.take ds.length) ⟨[], []⟩ = some h) : cX n nx ds = (cK n nx h.canc kI h.items h.items).map fun l => { h with items := l } := by
 rw [List.take_length] at hk
 unfold cX
 rw [gQ, hk]
 rfl
def az (it : Itm) (a : ItA) : Trk := ⟨it.post, it.stops, it.lost, it.since, it.labs, it.seals, some (aV a.sB 0), a.sC, some (aV a.nB 0), a.nC, some (aV a.lB 0), a.lC, a.eA, a.eC⟩
def RunR (w : World) (n : Net) (nx : List NsC) (ds : List Ded) (e : Ending) (W' : World) : Prop :=
 Below w.heap.size w W' /\
 ((cX n nx ds = none /\ e = .returned (.tuple #[.slice none 0 0, iV 2])) ∨
 ∃ h As A c, cX n nx ds = some h /\ As.length = h.items.length /\ e = .returned (.tuple #[.slice A h.items.length c, iV 0]) /\ Rd W' A ((List.zipWith az h.items As).flatMap jJ) /\ ∀ t ∈ List.zipWith az h.items As, lK W' t)
structure RnS (w : World) (n : Net) (nx : List NsC) (nxA : Option Addr) (nxC : Nat) (ds : List Ded) (hb ab : Nat) (av : Obj) (k : Nat) (V : World) (T : Int) (h : Hst) (A : HsA) : Prop where
 wd : WdH w V n nx nxA nxC h A
 act : ei n nx (ds.take k) ⟨[], []⟩ = some h
 ok : em n nx (ds.take k) T h
 len : iN k h
 t0 : 0 <= T /\ T <= 1000000
 nxt : ∀ d, ds[k]? = some d -> T <= d.time
 eqs : A.hb = hb /\ A.ab = ab /\ A.av = av
theorem wg (w V : World) (n : Net) (nx : List NsC) (nxA : Option Addr) (nxC : Nat) (Y : Nat) (av ev : Obj) (X : Nat) (hw : w.heap.size <= X) (hX : X < Y) (old : bj w n /\ Tab w nxA nx /\ KW w) (bel : Below w.heap.size w V)
  (p0 : V.heap[Y]? = some (.map #[] 0)) (p1 : V.heap[Y + 1]? = some (.map #[] 0)) (p2 : V.heap[Y + 1 + 1]? = some (.cells (qg n nxA nx.length nxC none 0 0 Y (Y + 1)) 96 (0, 0))) (p3 : V.heap[Y + 1 + 1 + 1]? = some av) (p4 : V.heap[X]? = some ev) :
  WdH w V n nx nxA nxC ⟨[], []⟩ ⟨Y + 1 + 1, Y, Y + 1, none, 0, [], Y + 1 + 1 + 1, av, X, ev⟩ := by
 refine ⟨old, ⟨p2, ⟨by show w.heap.size <= Y + 1 + 1; omega, by show w.heap.size <= Y; omega, by show w.heap.size <= Y + 1; omega⟩, rfl, ⟨rfl, .inl ⟨rfl, rfl⟩⟩, ?_, ⟨0, ?_⟩, ⟨by show w.heap.size <= Y + 1 + 1 + 1; omega, p3⟩, ⟨hw, p4⟩, fun i it a h1 h2 => by simp at h1, ?_⟩, bel⟩
 ·have hm0 : dG Tryz.prog 9 V Y 0 (fun _ => none) := ⟨#[], 0, p0, aH _, by simp, by simp, fun _ _ h => (by cases h), by simp⟩
  exact hm0.eq (by rw [pE]; congr 1)
 ·have hm0 : dG Tryz.prog 3 V (Y + 1) 0 (fun _ => none) := ⟨#[], 0, p1, aH _, by simp, by simp, fun _ _ h => (by cases h), by simp⟩
  exact hm0.eq (by rw [mG]; congr 1)
 ·simp [HsA.all, HsA.own]
  omega
theorem own_cap {w : World} {base size b n m c : Nat} {e : TypeId} {xs : List Value} (h : w.ownsRow base e size (.slice (some (aV b 0)) n c) m xs) : n <= c := by
 rcases h.2 with ⟨hv, _⟩ | ⟨g, cap, cur, hv, _, _, hc, _⟩
 ·cases hv
 ·cases hv
  exact hc
theorem trkInf : (Tryz.prog.info? 48).map (fun i => (i.zero, i.size, i.bytes)) = some (some (.agg #[.string ⟨#[]⟩, iV 0, iV 0, iV 0, iV 0, .slice none 0 0, .bool false, .slice none 0 0, .slice none 0 0, .slice none 0 0]), 10, 152) := by kernel_rfl
abbrev dI (fr till : Int) (A : Option Addr) (len c : Nat) (D : Option Addr) (dl dc : Nat) : Value := .agg #[iV fr, iV till, .slice A len c, .slice D dl dc]
abbrev gS (fr till : Int) (A : Option Addr) (len c : Nat) (D : Option Addr) (dl dc : Nat) : Obj := .cells #[iV fr, iV till, .slice A len c, .slice D dl dc] 33
abbrev iz (n : Net) (nxA : Option Addr) (nl nxC Y : Nat) : List Obj := [.map #[] 0, .map #[] 0, .cells (qg n nxA nl nxC none 0 0 Y (Y + 1)) 96]
abbrev dV (n : Net) (fr till : Int) (A : Option Addr) (len c : Nat) (D : Option Addr) (dl dc : Nat) : List Obj := [ae n, gS fr till A len c D dl dc]
theorem oC (n : Net) (fr till : Int) (nx : List NsC) (nxA : Option Addr) (nxC : Nat) (D : Option Addr) (dl dc : Nat) (DA : Option Addr) (DC : Nat) (ds : List Ded) (w : World) (hn : bj w n) (hT : Tab w nxA nx) (hK : KW w) (hpw : PW w) (hS : bM n) (hF : bi n nx) (hx : nx.length <= 1000000) (hds : Rd w DA (ds.flatMap eW)) (hd : bK n [] 0 ds) (hl : ds.length <= 50) :
  Calls Tryz.prog 13 #[bB n, dI fr till nxA nx.length nxC D dl dc, .slice DA ds.length DC] w (RunR w n nx ds) := by
 have hG : cY n := hS.1.good
 go_enter Tryz.func13, Tryz.ntmps13
 go_upto_region 1 with fail
 have hb5 := bv (dV n fr till nxA nx.length nxC D dl dc) w
 have hg5 := bN (dV n fr till nxA nx.length nxC D dl dc) w
 have hz5 : (au w (dV n fr till nxA nx.length nxC D dl dc)).heap.size = w.heap.size + 1 + 1 := eH (dV n fr till nxA nx.length nxC D dl dc) w
 have q0 : (au w (dV n fr till nxA nx.length nxC D dl dc)).heap[w.heap.size]? = some (ae n) := hg5 0 _ rfl
 have q1 : (au w (dV n fr till nxA nx.length nxC D dl dc)).heap[w.heap.size + 1]? = some (gS fr till nxA nx.length nxC D dl dc) := hg5 1 _ rfl
 change Code.wp _ _ _ _ (au w (dV n fr till nxA nx.length nxC D dl dc))
 generalize au w (dV n fr till nxA nx.length nxC D dl dc) = V1 at *
 obtain ⟨X, hX⟩ : ∃ X, w.heap.size = X := ⟨_, rfl⟩
 have HXW := aB hX
 have HB1 := aB hb5
 rw [hX] at q0 q1 hz5 ⊢
 have HQ : Hid (∀ V, Below V1.heap.size V1 V -> V.heap[X]? = some (ae n) /\ V.heap[X + 1]? = some (gS fr till nxA nx.length nxC D dl dc) /\ Below w.heap.size w V) := fun V hb => ⟨(hb.block _ (aa q0)).trans q0, (hb.block _ (aa q1)).trans q1, hb5.trans (hb.mono hb5.size)⟩
 have HC0 : Hid (∀ V : World, V.heap[X]? = some (ae n) -> V.cell? (aV X 0) = some (.slice n.calA n.cals.length n.calC) /\ V.cell? (aV X 1) = some (.slice n.namA n.names.length n.namC) /\ V.cell? (aV X 2) = some (.slice n.opA n.ops.length n.opC) /\ V.cell? (aV X 3) = some (.slice n.offA n.offs.length n.offC) /\ V.cell? (aV X 4) = some (.slice n.linA n.lins.length n.linC) /\ V.cell? (aV X 5) = some (.slice n.clsA n.clss.length n.clsC)) := fun V h => ⟨aA 0 h, aA 1 h, aA 2 h, aA 3 h, aA 4 h, aA 5 h⟩
 obtain ⟨c0, c1, c2, c3, c4, c5⟩ := HC0.out V1 q0
 have HOLD := aB (And.intro hn (And.intro hT (And.intro hK (And.intro hpw (And.intro hS (And.intro hG (And.intro hF hx)))))))
 have HDD := aB (And.intro hds (And.intro hd hl))
 have HSZ := aB hz5
 have HQ1 := aB q1
 clear hX hg5 hb5 q0 q1 hz5 hn hT hK hpw hS hG hF hx hds hd hl
 go_wp2_with fail
 refine (lY n V1 (HOLD.out.1.below HB1.out) (HOLD.out.2.2.1.below HB1.out) HOLD.out.2.2.2.2.1).mono ?_
 rintro e V2 ⟨rfl, hb⟩
 have hq := HQ.out V2 hb
 have HB2 := aB hb
 clear c0 c1 c2 c3 c4 c5 hb
 obtain ⟨c0, c1, c2, c3, c4, c5⟩ := HC0.out V2 hq.1
 have d2 : V2.cell? (aV (X + 1) 2) = some (.slice nxA nx.length nxC) := aA 2 hq.2.1
 have HW2 := aB hq.2.2
 clear hq
 go_wp2_with fail
 refine (wz n nxA nxC nx V2 (HOLD.out.1.below HW2.out) (HOLD.out.2.1.below HW2.out) HOLD.out.2.2.2.2.2.2.1 HOLD.out.2.2.2.2.2.2.2).mono ?_
 rintro e V3 ⟨rfl, hb⟩
 have HB3 : Hid (Below V1.heap.size V1 V3) := bt HB2.out hb
 have hq := HQ.out V3 HB3.out
 clear c0 c1 c2 c3 c4 c5 d2 hb
 obtain ⟨c0, c1, c2, c3, c4, c5⟩ := HC0.out V3 hq.1
 have HW3 := aB hq.2.2
 clear hq
 go_wp2_with fail
 refine (l8 n DA DC ds V3 (HDD.out.1.below HW3.out) HDD.out.2.1 HDD.out.2.2).mono ?_
 rintro e V4 ⟨rfl, hb⟩
 have HB4 : Hid (Below V1.heap.size V1 V4) := bt HB3.out hb
 have hq := HQ.out V4 HB4.out
 clear c0 c1 c2 c3 c4 c5 hb
 obtain ⟨c0, c1, c2, c3, c4, c5⟩ := HC0.out V4 hq.1
 have d2 : V4.cell? (aV (X + 1) 2) = some (.slice nxA nx.length nxC) := aA 2 hq.2.1
 have HX4 := aB hq.1
 have HW4 := aB hq.2.2
 clear hq
 have hmm := gz
 go_upto_region 4 with fail
 clear hmm c0 c1 c2 c3 c4 c5 d2
 have hb5 := bv (iz n nxA nx.length nxC V4.heap.size) V4
 have hg5 := bN (iz n nxA nx.length nxC V4.heap.size) V4
 have hz5 : (au V4 (iz n nxA nx.length nxC V4.heap.size)).heap.size = V4.heap.size + 1 + 1 + 1 := eH (iz n nxA nx.length nxC V4.heap.size) V4
 have q0 : (au V4 (iz n nxA nx.length nxC V4.heap.size)).heap[V4.heap.size]? = some (.map #[] 0) := hg5 0 _ rfl
 have q1 : (au V4 (iz n nxA nx.length nxC V4.heap.size)).heap[V4.heap.size + 1]? = some (.map #[] 0) := hg5 1 _ rfl
 have q2 : (au V4 (iz n nxA nx.length nxC V4.heap.size)).heap[V4.heap.size + 1 + 1]? = some (.cells (qg n nxA nx.length nxC none 0 0 V4.heap.size (V4.heap.size + 1)) 96 (0, 0)) := hg5 2 _ rfl
 change Code.wp _ _ _ _ (au V4 (iz n nxA nx.length nxC V4.heap.size))
 generalize au V4 (iz n nxA nx.length nxC V4.heap.size) = V5 at *
 have hxy : X < V4.heap.size := aa HX4.out
 have hx5 : V5.heap[X]? = some (ae n) := (hb5.block _ hxy).trans HX4.out
 have hw5 : Below w.heap.size w V5 := HW4.out.trans (hb5.mono HW4.out.size)
 obtain ⟨Y, hY⟩ : ∃ Y, V4.heap.size = Y := ⟨_, rfl⟩
 rw [hY] at q0 q1 q2 hz5 hxy ⊢
 have HXY := aB hxy
 have HQ0 := aB (And.intro q0 (And.intro q1 (And.intro q2 hx5)))
 have HW5 := aB hw5
 have HZ5 := aB hz5
 clear hY hb5 hg5 q0 q1 q2 hx5 hw5 hxy hz5
 go_wp2_with fail
 refine (qH (Y + 1 + 1) V5).mono ?_
 rintro e V6 ⟨rfl, hM, hb⟩
 rw [HZ5.out] at hM ⊢
 obtain ⟨av, hav⟩ : ∃ av, V6.heap[Y + 1 + 1 + 1]? = some av := by
  obtain ⟨es, clk, h9, -⟩ := hM
  exact ⟨_, h9⟩
 have HM : Hid (∀ V : World, V.heap[Y + 1 + 1 + 1]? = some av -> dG Tryz.prog 3 V (Y + 1 + 1 + 1) 5 (mH (uO (Y + 1 + 1)))) := fun V h => hM.kept (h.trans hav.symm)
 have hwd : WdH w V6 n nx nxA nxC ⟨[], []⟩ ⟨Y + 1 + 1, Y, Y + 1, none, 0, [], Y + 1 + 1 + 1, av, X, ae n⟩ :=
  wg w V6 n nx nxA nxC Y av (ae n) X (by have := HXW.out; omega) HXY.out ⟨HOLD.out.1, HOLD.out.2.1, HOLD.out.2.2.1⟩ (HW5.out.trans (hb.mono HW5.out.size))
   ((hb.block _ (aa HQ0.out.1)).trans HQ0.out.1) ((hb.block _ (aa HQ0.out.2.1)).trans HQ0.out.2.1) ((hb.block _ (aa HQ0.out.2.2.1)).trans HQ0.out.2.2.1) hav ((hb.block _ (aa HQ0.out.2.2.2)).trans HQ0.out.2.2.2)
 have HR0 : Hid (RnS w n nx nxA nxC ds (Y + 1 + 1) (Y + 1 + 1 + 1) av 0 V6 0 ⟨[], []⟩ ⟨Y + 1 + 1, Y, Y + 1, none, 0, [], Y + 1 + 1 + 1, av, X, ae n⟩) :=
  ⟨hwd, rfl, wh n nx, fun it h => (by cases h), ⟨Int.le_refl _, by decide⟩, fun d h => (jx HDD.out.2.1 h).1, rfl, rfl, rfl⟩
 clear hwd hav hM hb
 go_wp2_with fail
 go_loopw [11, 42] (fun _ i wr => ∃ (k : Nat) (T : Int) (h : Hst) (A : HsA), k <= ds.length /\ i = iV k /\ Hid (RnS w n nx nxA nxC ds (Y + 1 + 1) (Y + 1 + 1 + 1) av k wr T h A)) (fun _ i _ => ds.length + 1 - (intOf i).toNat)
 case atStart => exact ⟨0, 0, ⟨[], []⟩, ⟨Y + 1 + 1, Y, Y + 1, none, 0, [], Y + 1 + 1 + 1, av, X, ae n⟩, Nat.zero_le _, rfl, HR0⟩
 case round =>
 obtain ⟨k, T, h, A, hk, rfl, HR⟩ := hrel
 clear HR0 HQ0
 have j0 : (0 : Int) <= (k : Int) := by omega
 by_cases hlt : k < ds.length
 case neg =>
  have j1 : ¬ (k : Int) < (ds.length : Int) := by omega
  have hkd : k = ds.length := by omega
  subst hkd
  have hfew := HR.out.ok.few
  have hcall := ll w _ n nx nxA nxC h _ kI HOLD.out.2.2.2.2.1 HOLD.out.2.2.2.2.2.2.1 HR.out.wd (by have := HDD.out.2.2; simp at hfew; omega) (HR.out.ok.ok3 HR.out.len (by have := HDD.out.2.2; omega)) HOLD.out.2.2.2.1
  rw [HR.out.eqs.1] at hcall
  have HCALL := aB hcall
  have HFEW := aB hfew
  clear hcall hfew
  go_wp2_with fail
  refine HCALL.out.mono ?_
  rintro e V2' (⟨l, hp, rfl, A2, hwd2, hcore⟩ | ⟨hp, rfl, hb⟩)
  case inr =>
   have HP := aB hp
   have HB := aB hb
   clear hp hb
   go_wp2_with fail
   go_ret2
   refine ⟨HB.out, .inl ⟨?_, rfl⟩⟩
   rw [qF HR.out.act, HP.out]
   rfl
  have h0 : A2.hb = Y + 1 + 1 := (show A2.hb = A.hb from congrArg (·.1) hcore).trans HR.out.eqs.1
  have c7 : V2'.cell? (aV (Y + 1 + 1) 7) = some (.slice A2.iB l.length A2.iC) := by
   have := hwd2.hs.cell (i := 7) rfl
   rw [h0] at this
   exact this
  have HP := aB hp
  have HWD := aB hwd2
  clear h0 hcore hp hwd2
  go_wp2_with fail
  have hld : V2'.drew = V2'.drew := rfl
  obtain ⟨i0, hi0, hz0, hz1, hz2⟩ := info_parts trkInf
  go_loopw [12, 14, 66] (fun t _ i wr => ∃ (k c : Nat) (A' : Option Addr), k <= l.length /\ t = .slice A' k c /\ i = iV k /\ Hid (Below V2'.heap.size V2' wr) /\ Hid (wr.ownsRow V2'.heap.size 48 10 (.slice A' k c) k (((List.zipWith az l A2.its).take k).flatMap jJ))) (fun _ _ i _ => l.length + 1 - (intOf i).toNat)
  case atStart => exact ⟨0, 0, none, Nat.zero_le _, rfl, rfl, aB (aJ _ _), ⟨rfl, .inl ⟨rfl, rfl⟩⟩⟩
  case round =>
  obtain ⟨k, c, A', hk, rfl, rfl, HB, HO⟩ := hrel
  clear c7
  have hl50 : l.length <= 50 := by
   have h1 := HFEW.out
   have h2 := (jr HP.out).1
   have := HDD.out.2.2
   simp at h1
   omega
  have j2 : (0 : Int) <= (k : Int) := by omega
  by_cases hlt : k < l.length
  case neg =>
   have j3 : ¬ (k : Int) < (l.length : Int) := by omega
   have hkl : k = l.length := by omega
   subst hkl
   go_wp2_with fail
   go_ret2
   have hzl : (List.zipWith az l A2.its).length = l.length := by
    rw [List.length_zipWith, show A2.its.length = l.length from HWD.out.hs.len]
    exact Nat.min_self _
   have hown := HO.out
   rw [List.take_of_length_le (by omega)] at hown
   refine ⟨HWD.out.bel.trans (HB.out.mono HWD.out.bel.size), .inr ⟨{ h with items := l }, A2.its, A', c, ?_, HWD.out.hs.len, rfl, cE hown, fun t ht => ?_⟩⟩
   ·rw [qF HR.out.act, HP.out]
    rfl
   ·obtain ⟨i, hi⟩ := List.getElem?_of_mem ht
    rw [List.getElem?_zipWith] at hi
    cases h1 : l[i]? with
    | none => rw [h1] at hi; simp at hi
    | some it =>
     cases h2 : A2.its[i]? with
     | none => rw [h1, h2] at hi; simp at hi
     | some a =>
      rw [h1, h2] at hi
      simp at hi
      subst hi
      have h3 := (HWD.out.hs.item i it a h1 h2).below HB.out
      exact ⟨cE h3.st, cE h3.si, cE h3.la, cE h3.se, own_cap h3.st⟩
  have j3 : (k : Int) < (l.length : Int) := by omega
  obtain ⟨it, hit⟩ : ∃ it, l[k]? = some it := ⟨_, aD hlt⟩
  obtain ⟨a, hat⟩ : ∃ a, A2.its[k]? = some a := ⟨_, aD (by rw [show A2.its.length = l.length from HWD.out.hs.len]; exact hlt)⟩
  obtain ⟨pb, po, hPA, -, hpc⟩ := ((cE HWD.out.hs.row).below HB.out).get (i := k) (by rw [List.length_map, show A2.its.length = l.length from HWD.out.hs.len]; exact hlt)
  have p0 : wr.cell? (aV pb (po + k)) = some (.pointer (some (aV a.b 0))) := hpc k _ (by rw [aS, hat]; rfl)
  obtain ⟨lv, -, -, hcl⟩ := ((HWD.out.hs.item k it a hit hat).below HB.out).cells
  have t0 : wr.cell? (aV a.b 0) = some (sV it.post.label) := aA 0 hcl
  have t1 : wr.cell? (aV a.b 1) = some (iV it.post.frm) := aA 1 hcl
  have t2 : wr.cell? (aV a.b 2) = some (iV it.post.dst) := aA 2 hcl
  have t3 : wr.cell? (aV a.b 3) = some (iV it.post.cls) := aA 3 hcl
  have t4 : wr.cell? (aV a.b 4) = some (iV it.post.acc) := aA 4 hcl
  have t5 : wr.cell? (aV a.b 5) = some (.slice (some (aV a.sB 0)) it.stops.length a.sC) := aA 5 hcl
  have t6 : wr.cell? (aV a.b 6) = some (.bool it.lost) := aA 6 hcl
  have t7 : wr.cell? (aV a.b 7) = some (.slice (some (aV a.nB 0)) it.since.length a.nC) := aA 7 hcl
  have t8 : wr.cell? (aV a.b 8) = some (.slice (some (aV a.lB 0)) it.labs.length a.lC) := aA 8 hcl
  have t9 : wr.cell? (aV a.b 9) = some (.slice a.eA it.seals.length a.eC) := aA 9 hcl
  have HIT := aB (And.intro hit (And.intro hat hlt))
  have HVS : Hid (V2'.heap.size <= wr.heap.size) := HB.out.size
  clear hcl hpc hit hat hlt
  rw [hPA]
  clear hPA
  go_wp2_with (at_builtin; go_loud (refine wpList_append_lies _ rfl _ _ _ rfl V2'.heap.size 48 i0 _ 10 152 Tryz.underlying37 hi0 hz0 hz1 hz2 rfl (by omega) _ _ _ rfl (aq HO.out (ba wr _)) (aV wr.heap.size 0) 1 1 [sV it.post.label, iV it.post.frm, iV it.post.dst, iV it.post.cls, iV it.post.acc, .slice (some (aV a.sB 0)) it.stops.length a.sC, .bool it.lost, .slice (some (aV a.nB 0)) it.since.length a.nC, .slice (some (aV a.lB 0)) it.labs.length a.lC, .slice a.eA it.seals.length a.eC] rfl rfl (fun j u hu => by rw [gr, Nat.zero_add]; exact (aA j (aC wr (.cells #[sV it.post.label, iV it.post.frm, iV it.post.dst, iV it.post.cls, iV it.post.acc, .slice (some (aV a.sB 0)) it.stops.length a.sC, .bool it.lost, .slice (some (aV a.nB 0)) it.since.length a.nC, .slice (some (aV a.lB 0)) it.labs.length a.lC, .slice a.eA it.seals.length a.eC] 48))).trans (by simpa using hu)) (fun u hu => by simp at hu; rcases hu with rfl | rfl | rfl | rfl | rfl | rfl | rfl | rfl | rfl | rfl <;> rfl) (by omega) (by unfold maxLen; omega) (by omega) (by have := HVS.out; simp; omega) (wr.heap.size + 1) (by simp) ?_; intro g cap w2 own1 hgrow hat1 hlt1))
  have hb2 : Below V2'.heap.size V2' w2 := (HB.out.trans ((ba wr _).mono HVS.out)).grown hgrow (aG HVS.out (by simp)) (fun x hx => (dY HO.out hx).1)
  have e9 : (List.zipWith az l A2.its)[k]? = some (az it a) := by
   rw [List.getElem?_zipWith, HIT.out.1, HIT.out.2.1]
  refine ⟨⟨k + 1, cap, some (aV g 0), HIT.out.2.2, rfl, rfl, hb2, ?_⟩, ?_⟩
  ·rw [List.take_add_one, e9, List.flatMap_append]
   exact own1
  ·have := HIT.out.2.2
   show l.length + 1 - (((k + 1 : Nat) : Int)).toNat < l.length + 1 - ((k : Int)).toNat
   omega
 have j1 : (k : Int) < (ds.length : Int) := by omega
 have HLT := aB hlt
 obtain ⟨d, hd⟩ : ∃ d, ds[k]? = some d := ⟨_, aD hlt⟩
 have hT := HR.out.nxt d hd
 obtain ⟨-, db, dof, hDA, -, y0, yj⟩ := ay hU (HDD.out.1.below HR.out.wd.bel) hd (by have := HDD.out.2.2; omega)
 have z0 : wr.cell? (aV db (dof + k * 10)) = some (iV d.kind) := y0 _ rfl
 have z1 : wr.cell? (aV db (dof + k * 10 + 1)) = some (iV d.time) := yj 1 _ rfl
 have z2 : wr.cell? (aV db (dof + k * 10 + 2)) = some (sV d.post.label) := yj 2 _ rfl
 have z3 : wr.cell? (aV db (dof + k * 10 + 3)) = some (iV d.post.frm) := yj 3 _ rfl
 have z4 : wr.cell? (aV db (dof + k * 10 + 4)) = some (iV d.post.dst) := yj 4 _ rfl
 have z5 : wr.cell? (aV db (dof + k * 10 + 5)) = some (iV d.post.cls) := yj 5 _ rfl
 have z6 : wr.cell? (aV db (dof + k * 10 + 6)) = some (iV d.post.acc) := yj 6 _ rfl
 have z7 : wr.cell? (aV db (dof + k * 10 + 7)) = some (sV d.label) := yj 7 _ rfl
 have z8 : wr.cell? (aV db (dof + k * 10 + 8)) = some (sV d.other) := yj 8 _ rfl
 have z9 : wr.cell? (aV db (dof + k * 10 + 9)) = some (iV d.line) := yj 9 _ rfl
 have HDE := aB hd
 have HTT := aB hT
 clear y0 yj hlt hk hd hT
 rw [hDA]
 clear hDA
 go_upto_region 8 with fail
 have hx := aC wr (an d)
 have hA0 := HR.out.wd.below (ba wr (an d))
 have hA1 : WdH w (wr.alloc (an d)) n nx nxA nxC h { A with eb := wr.heap.size, ev := an d } := hA0.keep HR.out.wd.bel.size hx (fun hm => by
  have := (HR.out.wd.hs.lt _ hm).2
  omega)
 have hfew := HR.out.ok.few
 have hkk : k <= 50 := by have := HDD.out.2.2; have := HLT.out; omega
 have htk : (ds.take k).length <= 50 := by simp; omega
 have hcall := ll w _ n nx nxA nxC h _ d.time HOLD.out.2.2.2.2.1 HOLD.out.2.2.2.2.2.2.1 hA1 (by omega) (HR.out.ok.ok3 HR.out.len (by omega)) HOLD.out.2.2.2.1
 rw [show ({ A with eb := wr.heap.size, ev := an d } : HsA).hb = Y + 1 + 1 from HR.out.eqs.1] at hcall
 have HCALL := aB hcall
 have y1 : (wr.alloc (an d)).cell? (aV wr.heap.size 1) = some (iV d.time) := aA 1 hx
 have HKK := aB hkk
 have HTK := aB htk
 clear hcall hx hA0 hA1 hfew hkk htk z0 z1 z2 z3 z4 z5 z6 z7 z8 z9
 change Code.wp _ _ _ _ (wr.alloc (an d))
 obtain ⟨x, hxd⟩ : ∃ x, wr.heap.size = x := ⟨_, rfl⟩
 rw [hxd] at y1 HCALL ⊢
 clear hxd
 generalize (wr.alloc (an d)) = V1' at *
 go_wp2_with fail
 refine HCALL.out.mono ?_
 rintro e V2' (⟨l, hp, rfl, A2, hwd2, hcore⟩ | ⟨hp, rfl, hb⟩)
 case inr =>
  have HP := aB hp
  have HB := aB hb
  clear hp hb y1
  go_wp2_with fail
  go_ret2
  refine ⟨HB.out, .inl ⟨uN (k := k + 1) ?_, rfl⟩⟩
  rw [ot HR.out.act HDE.out, HP.out]
 have h0 : A2.hb = Y + 1 + 1 := congrArg (·.1) hcore
 have h1 : A2.ab = Y + 1 + 1 + 1 := (show A2.ab = A.ab from congrArg (·.2.1) hcore).trans HR.out.eqs.2.1
 have h2 : A2.av = av := (show A2.av = A.av from congrArg (·.2.2.1) hcore).trans HR.out.eqs.2.2
 have h3 : A2.eb = x := congrArg (·.2.2.2.1) hcore
 have h4 : A2.ev = an d := congrArg (·.2.2.2.2) hcore
 have hx2 : V2'.heap[x]? = some (an d) := by
  have := hwd2.hs.act2.2
  rw [h3, h4] at this
  exact this
 have hm2 : V2'.heap[Y + 1 + 1 + 1]? = some av := by
  have := hwd2.hs.act.2
  rw [h1, h2] at this
  exact this
 have hdk := jx HDD.out.2.1 HDE.out
 have hok2 : em n nx (ds.take k) d.time ⟨l, h.canc⟩ := (HR.out.ok.proc HOLD.out.2.2.2.2.2.1 HOLD.out.2.2.2.2.2.2.1 HTT.out hp).1
 have hlb2 : iN k ⟨l, h.canc⟩ := HR.out.len.proc hp
 have hdo : iK n (ds.take k) d := by simpa using hdk.2.2.1
 have ht2 : 0 <= d.time /\ d.time <= 1000000 := ⟨Int.le_trans HR.out.t0.1 HTT.out, hdk.2.1⟩
 obtain ⟨ha, hcf, hcall⟩ := act_any w V2' n nx nxA nxC ⟨l, h.canc⟩ A2 (ds.take k) d HOLD.out.2.2.2.2.1 HOLD.out.2.2.2.2.2.1 HOLD.out.2.2.2.2.2.2.1 hwd2 hok2 hdo (hlb2.mono HKK.out) (aG hok2.few HTK.out) ht2
 rw [h0] at ha hcall
 have hkr : I64 d.kind := by
  rcases hdo with ⟨h, -⟩ | ⟨h, -⟩ | ⟨h, -⟩ | ⟨h, -⟩
  ·rw [h]; exact iO (by decide) (by decide)
  ·rcases h with h | h <;> (rw [h]; exact iO (by decide) (by decide))
  ·rw [h]; exact iO (by decide) (by decide)
  ·rw [h]; exact iO (by decide) (by decide)
 have hz : (zeroValue 100).run Tryz.prog V2' = .ok .nilFunc V2' := by kernel_rfl
 have hlk := (HM.out V2' hm2).look ky Tryz.underlying97 hz (dD d.kind hkr) false
 have hat : mH (uO (Y + 1 + 1)) (iV d.kind) = some (.func (.func (lL d.kind)) #[.pointer (some (aV (Y + 1 + 1) 0))] #[]) := ha
 rw [hat] at hlk
 have hlk2 : (Instr.lookup 97 (.map (some (Y + 1 + 1 + 1))) (iV d.kind) false).run Tryz.prog V2' = .ok (.func (.func (lL d.kind)) #[.pointer (some (aV (Y + 1 + 1) 0))] #[]) V2' := by simpa using hlk
 have kk (i : Nat) (v : Value) (hv : (#[iV d.kind, iV d.time, sV d.post.label, iV d.post.frm, iV d.post.dst, iV d.post.cls, iV d.post.acc, sV d.label, sV d.other, iV d.line] : Array Value)[i]? = some v) : V2'.cell? (aV x i) = some v := (aA _ hx2).trans hv
 have k0 : V2'.cell? (aV x 0) = some (iV d.kind) := kk 0 _ rfl
 have k1 : V2'.cell? (aV x 1) = some (iV d.time) := kk 1 _ rfl
 have k2 : V2'.cell? (aV x 2) = some (sV d.post.label) := kk 2 _ rfl
 have k3 : V2'.cell? (aV x 3) = some (iV d.post.frm) := kk 3 _ rfl
 have k4 : V2'.cell? (aV x 4) = some (iV d.post.dst) := kk 4 _ rfl
 have k5 : V2'.cell? (aV x 5) = some (iV d.post.cls) := kk 5 _ rfl
 have k6 : V2'.cell? (aV x 6) = some (iV d.post.acc) := kk 6 _ rfl
 have k7 : V2'.cell? (aV x 7) = some (sV d.label) := kk 7 _ rfl
 have k8 : V2'.cell? (aV x 8) = some (sV d.other) := kk 8 _ rfl
 have k9 : V2'.cell? (aV x 9) = some (iV d.line) := kk 9 _ rfl
 have HCALL2 := aB hcall
 have HP := aB hp
 have HOK2 := aB (And.intro hok2 (And.intro hlb2 (And.intro hdo (And.intro ht2 hdk.2.2.2))))
 have HE := aB (And.intro h0 (And.intro h1 h2))
 clear kk hlk hat hz hkr ha hcall hdk hok2 hlb2 hdo ht2 hx2 hm2 h0 h1 h2 h3 h4 hcore hwd2 hp y1
 generalize lL d.kind = g at *
 go_wp2_with fail
 refine HCALL2.out.mono ?_
 rintro e V3' ⟨rfl, A3, hwd3, hcore3⟩
 have HW3' := aB (And.intro hwd3 hcore3)
 clear hwd3 hcore3 k0 k1 k2 k3 k4 k5 k6 k7 k8 k9
 go_wp2_with fail
 have e7 : wrap64 ((k : Int) + 1) = ((k + 1 : Nat) : Int) := by
  have := HDD.out.2.2
  have := HLT.out
  unfold wrap64
  omega
 rw [e7]
 have e8 : ds.take (k + 1) = ds.take k ++ [d] := by
  rw [List.take_add_one, HDE.out]; rfl
 obtain ⟨g1, g2, g3, g4, g5⟩ := HOK2.out
 refine ⟨⟨k + 1, d.time, dR n nx ⟨l, h.canc⟩ d, A3, HLT.out, rfl, ?_⟩, ?_⟩
 ·refine (⟨HW3'.out.1, ?_, ?_, g2.act n nx d, g4, g5, ?_⟩ : RnS w n nx nxA nxC ds (Y + 1 + 1) (Y + 1 + 1 + 1) av (k + 1) V3' d.time (dR n nx ⟨l, h.canc⟩ d) A3)
  ·rw [ot HR.out.act HDE.out, HP.out]
  ·rw [e8]
   exact g1.act g3 g4.1 g4.2
  ·exact ⟨(congrArg (·.1) HW3'.out.2).trans HE.out.1, (show A3.ab = A2.ab from congrArg (·.2.1) HW3'.out.2).trans HE.out.2.1, (show A3.av = A2.av from congrArg (·.2.2.1) HW3'.out.2).trans HE.out.2.2⟩
 ·have := HLT.out
  show ds.length + 1 - (((k + 1 : Nat) : Int)).toNat < ds.length + 1 - ((k : Int)).toNat
  omega
theorem exW_in {W : World} {wA a1 a2 a3 a4 a5 a6 : Option Addr} (h1 : Rd W wA [oV true, oV true, oV true, oV true, oV true, oV false, oV false]) (h2 : Rd W a1 [iV 0, .slice wA 7 7, .slice none 0 0]) (h3 : Rd W a2 [sV [99]]) (h4 : Rd W a3 [sV [112]])
  (h5 : Rd W a4 [sV [97], iV 0, iV 0, iV 2, iV 1, iV 10, .slice none 0 0, sV [98], iV 0, iV 0, iV 2, iV 1, iV 10, .slice none 0 0]) (h6 : Rd W a5 [sV [108], iV 0, iV 1, iV 480, iV 120, iV 1, sV [109], iV 1, iV 0, iV 600, iV 60, iV 1]) (h7 : Rd W a6 [sV [107], iV 1020, iV 720]) : bj W (exW wA a1 a2 a3 a4 a5 a6) := by
 refine ⟨h2, fun c hc => ?_, h3, fun s hs => ?_, h4, fun s hs => ?_, h5, fun o ho => ?_, h6, fun l hl => ?_, h7, fun k hk => ?_, ?_⟩
 ·obtain rfl : c = wD _ := by simpa [exW] using hc
  exact ⟨show I64 0 from bu (by decide) (by decide), h1, Rd.nil _ _, (fun n hn => by cases hn), show 7 <= maxLen by decide, show 0 <= maxLen by decide⟩
 ·obtain rfl : s = [99] := by simpa [exW] using hs
  decide
 ·obtain rfl : s = [112] := by simpa [exW] using hs
  decide
 ·have : o = oO 97 ∨ o = oO 98 := by simpa [exW] using ho
  rcases this with rfl | rfl
  ·exact ⟨⟨by decide, bu (by decide) (by decide), bu (by decide) (by decide), bu (by decide) (by decide), bu (by decide) (by decide), bu (by decide) (by decide)⟩, Rd.nil _ _, (fun s hs => by cases hs), by decide⟩
  ·exact ⟨⟨by decide, bu (by decide) (by decide), bu (by decide) (by decide), bu (by decide) (by decide), bu (by decide) (by decide), bu (by decide) (by decide)⟩, Rd.nil _ _, (fun s hs => by cases hs), by decide⟩
 ·have : l = ⟨[108], 0, 1, 480, 120, 1⟩ ∨ l = ⟨[109], 1, 0, 600, 60, 1⟩ := by simpa [exW] using hl
  rcases this with rfl | rfl
  ·exact ⟨by decide, bu (by decide) (by decide), bu (by decide) (by decide), bu (by decide) (by decide), bu (by decide) (by decide), bu (by decide) (by decide)⟩
  ·exact ⟨by decide, bu (by decide) (by decide), bu (by decide) (by decide), bu (by decide) (by decide), bu (by decide) (by decide), bu (by decide) (by decide)⟩
 ·obtain rfl : k = ⟨[107], 1020, 720⟩ := by simpa [exW] using hk
  exact ⟨show 1 <= maxLen by decide, show I64 1020 from bu (by decide) (by decide), show I64 720 from bu (by decide) (by decide)⟩
 ·exact ⟨show 1 <= maxLen by decide, show 1 <= maxLen by decide, show 1 <= maxLen by decide, show 2 <= maxLen by decide, show 2 <= maxLen by decide, show 1 <= maxLen by decide⟩
theorem tab_exW {w : World} {a b c : Nat} (ha : w.heap[a]? = some (.cells #[iV (-1), iV 0] 3 (0, 0))) (hb : w.heap[b]? = some (.cells #[iV 1, iV (-1)] 3 (0, 0))) (hc : w.heap[c]? = some (.cells #[.slice (some (aV a 0)) 2 2, .slice (some (aV b 0)) 2 2] 46 (0, 0))) :
  Tab w (some (aV c 0)) (jI (some (aV a 0)) (some (aV b 0))) := by
 refine ⟨cv hc, fun r hr => ?_⟩
 have : r = ⟨[-1, 0], some (aV a 0), 2⟩ ∨ r = ⟨[1, -1], some (aV b 0), 2⟩ := by simpa [jI] using hr
 rcases this with rfl | rfl
 ·refine ⟨cv ha, fun n hn => ?_, show 2 <= maxLen by decide⟩
  have : n = -1 ∨ n = 0 := by simpa using hn
  rcases this with rfl | rfl <;> exact bu (by decide) (by decide)
 ·refine ⟨cv hb, fun n hn => ?_, show 2 <= maxLen by decide⟩
  have : n = 1 ∨ n = -1 := by simpa using hn
  rcases this with rfl | rfl <;> exact bu (by decide) (by decide)
def ExamW (w : World) (e : Ending) (w' : World) : Prop :=
 ∃ wA a1 a2 a3 a4 a5 a6 A B C, e = .returned (.tuple #[bB (exW wA a1 a2 a3 a4 a5 a6), dI 0 0 C 2 2 none 0 0]) /\ bj w' (exW wA a1 a2 a3 a4 a5 a6) /\ Tab w' C (jI A B) /\ Below w.heap.size w w'
theorem oM (w : World) : Calls Tryz.prog 31 #[] w (ExamW w) := by
 have hg := bN [.cells #[.slice (some (aV (w.heap.size + 1 + 1 + 1) 0)) 1 1, .slice (some (aV (w.heap.size + 1 + 1 + 1 + 1) 0)) 1 1, .slice (some (aV (w.heap.size + 1 + 1 + 1 + 1 + 1) 0)) 1 1, .slice (some (aV (w.heap.size + 1 + 1 + 1 + 1 + 1 + 1 + 1) 0)) 2 2, .slice (some (aV (w.heap.size + 1 + 1 + 1 + 1 + 1 + 1 + 1 + 1) 0)) 2 2, .slice (some (aV (w.heap.size + 1 + 1 + 1 + 1 + 1 + 1 + 1 + 1 + 1) 0)) 1 1] 29, .cells #[iV 0, iV 0, .slice (some (aV (w.heap.size + 1 + 1 + 1 + 1 + 1 + 1 + 1 + 1 + 1 + 1 + 1 + 1) 0)) 2 2, .slice none 0 0] 33, .cells #[oV true, oV true, oV true, oV true, oV true, oV false, oV false] 4, .cells #[iV 0, .slice (some (aV (w.heap.size + 1 + 1) 0)) 7 7, .slice none 0 0] 110, .cells #[sV [99]] 9, .cells #[sV [112]] 148, .cells #[.slice (some (aV (w.heap.size + 1 + 1 + 1) 0)) 1 1, .slice (some (aV (w.heap.size + 1 + 1 + 1 + 1) 0)) 1 1, .slice (some (aV (w.heap.size + 1 + 1 + 1 + 1 + 1) 0)) 1 1, .slice (some (aV (w.heap.size + 1 + 1 + 1 + 1 + 1 + 1 + 1) 0)) 2 2, .slice (some (aV (w.heap.size + 1 + 1 + 1 + 1 + 1 + 1 + 1 + 1) 0)) 2 2, .slice (some (aV (w.heap.size + 1 + 1 + 1 + 1 + 1 + 1 + 1 + 1 + 1) 0)) 1 1] 29, .cells #[sV [97], iV 0, iV 0, iV 2, iV 1, iV 10, .slice none 0 0, sV [98], iV 0, iV 0, iV 2, iV 1, iV 10, .slice none 0 0] 54, .cells #[sV [108], iV 0, iV 1, iV 480, iV 120, iV 1, sV [109], iV 1, iV 0, iV 600, iV 60, iV 1] 52, .cells #[sV [107], iV 1020, iV 720] 135, .cells #[iV (-1), iV 0] 3, .cells #[iV 1, iV (-1)] 3, .cells #[.slice (some (aV (w.heap.size + 1 + 1 + 1 + 1 + 1 + 1 + 1 + 1 + 1 + 1) 0)) 2 2, .slice (some (aV (w.heap.size + 1 + 1 + 1 + 1 + 1 + 1 + 1 + 1 + 1 + 1 + 1) 0)) 2 2] 46] w
 have HG := aB hg; clear hg
 have hb := bv [.cells #[.slice (some (aV (w.heap.size + 1 + 1 + 1) 0)) 1 1, .slice (some (aV (w.heap.size + 1 + 1 + 1 + 1) 0)) 1 1, .slice (some (aV (w.heap.size + 1 + 1 + 1 + 1 + 1) 0)) 1 1, .slice (some (aV (w.heap.size + 1 + 1 + 1 + 1 + 1 + 1 + 1) 0)) 2 2, .slice (some (aV (w.heap.size + 1 + 1 + 1 + 1 + 1 + 1 + 1 + 1) 0)) 2 2, .slice (some (aV (w.heap.size + 1 + 1 + 1 + 1 + 1 + 1 + 1 + 1 + 1) 0)) 1 1] 29, .cells #[iV 0, iV 0, .slice (some (aV (w.heap.size + 1 + 1 + 1 + 1 + 1 + 1 + 1 + 1 + 1 + 1 + 1 + 1) 0)) 2 2, .slice none 0 0] 33, .cells #[oV true, oV true, oV true, oV true, oV true, oV false, oV false] 4, .cells #[iV 0, .slice (some (aV (w.heap.size + 1 + 1) 0)) 7 7, .slice none 0 0] 110, .cells #[sV [99]] 9, .cells #[sV [112]] 148, .cells #[.slice (some (aV (w.heap.size + 1 + 1 + 1) 0)) 1 1, .slice (some (aV (w.heap.size + 1 + 1 + 1 + 1) 0)) 1 1, .slice (some (aV (w.heap.size + 1 + 1 + 1 + 1 + 1) 0)) 1 1, .slice (some (aV (w.heap.size + 1 + 1 + 1 + 1 + 1 + 1 + 1) 0)) 2 2, .slice (some (aV (w.heap.size + 1 + 1 + 1 + 1 + 1 + 1 + 1 + 1) 0)) 2 2, .slice (some (aV (w.heap.size + 1 + 1 + 1 + 1 + 1 + 1 + 1 + 1 + 1) 0)) 1 1] 29, .cells #[sV [97], iV 0, iV 0, iV 2, iV 1, iV 10, .slice none 0 0, sV [98], iV 0, iV 0, iV 2, iV 1, iV 10, .slice none 0 0] 54, .cells #[sV [108], iV 0, iV 1, iV 480, iV 120, iV 1, sV [109], iV 1, iV 0, iV 600, iV 60, iV 1] 52, .cells #[sV [107], iV 1020, iV 720] 135, .cells #[iV (-1), iV 0] 3, .cells #[iV 1, iV (-1)] 3, .cells #[.slice (some (aV (w.heap.size + 1 + 1 + 1 + 1 + 1 + 1 + 1 + 1 + 1 + 1) 0)) 2 2, .slice (some (aV (w.heap.size + 1 + 1 + 1 + 1 + 1 + 1 + 1 + 1 + 1 + 1 + 1) 0)) 2 2] 46] w
 have HB := aB hb; clear hb
 go_enter Tryz.func31, Tryz.ntmps31
 go_wp2
 change bodyPost _ _ _ _ _ (au w [.cells #[.slice (some (aV (w.heap.size + 1 + 1 + 1) 0)) 1 1, .slice (some (aV (w.heap.size + 1 + 1 + 1 + 1) 0)) 1 1, .slice (some (aV (w.heap.size + 1 + 1 + 1 + 1 + 1) 0)) 1 1, .slice (some (aV (w.heap.size + 1 + 1 + 1 + 1 + 1 + 1 + 1) 0)) 2 2, .slice (some (aV (w.heap.size + 1 + 1 + 1 + 1 + 1 + 1 + 1 + 1) 0)) 2 2, .slice (some (aV (w.heap.size + 1 + 1 + 1 + 1 + 1 + 1 + 1 + 1 + 1) 0)) 1 1] 29, .cells #[iV 0, iV 0, .slice (some (aV (w.heap.size + 1 + 1 + 1 + 1 + 1 + 1 + 1 + 1 + 1 + 1 + 1 + 1) 0)) 2 2, .slice none 0 0] 33, .cells #[oV true, oV true, oV true, oV true, oV true, oV false, oV false] 4, .cells #[iV 0, .slice (some (aV (w.heap.size + 1 + 1) 0)) 7 7, .slice none 0 0] 110, .cells #[sV [99]] 9, .cells #[sV [112]] 148, .cells #[.slice (some (aV (w.heap.size + 1 + 1 + 1) 0)) 1 1, .slice (some (aV (w.heap.size + 1 + 1 + 1 + 1) 0)) 1 1, .slice (some (aV (w.heap.size + 1 + 1 + 1 + 1 + 1) 0)) 1 1, .slice (some (aV (w.heap.size + 1 + 1 + 1 + 1 + 1 + 1 + 1) 0)) 2 2, .slice (some (aV (w.heap.size + 1 + 1 + 1 + 1 + 1 + 1 + 1 + 1) 0)) 2 2, .slice (some (aV (w.heap.size + 1 + 1 + 1 + 1 + 1 + 1 + 1 + 1 + 1) 0)) 1 1] 29, .cells #[sV [97], iV 0, iV 0, iV 2, iV 1, iV 10, .slice none 0 0, sV [98], iV 0, iV 0, iV 2, iV 1, iV 10, .slice none 0 0] 54, .cells #[sV [108], iV 0, iV 1, iV 480, iV 120, iV 1, sV [109], iV 1, iV 0, iV 600, iV 60, iV 1] 52, .cells #[sV [107], iV 1020, iV 720] 135, .cells #[iV (-1), iV 0] 3, .cells #[iV 1, iV (-1)] 3, .cells #[.slice (some (aV (w.heap.size + 1 + 1 + 1 + 1 + 1 + 1 + 1 + 1 + 1 + 1) 0)) 2 2, .slice (some (aV (w.heap.size + 1 + 1 + 1 + 1 + 1 + 1 + 1 + 1 + 1 + 1 + 1) 0)) 2 2] 46])
 generalize (au w [.cells #[.slice (some (aV (w.heap.size + 1 + 1 + 1) 0)) 1 1, .slice (some (aV (w.heap.size + 1 + 1 + 1 + 1) 0)) 1 1, .slice (some (aV (w.heap.size + 1 + 1 + 1 + 1 + 1) 0)) 1 1, .slice (some (aV (w.heap.size + 1 + 1 + 1 + 1 + 1 + 1 + 1) 0)) 2 2, .slice (some (aV (w.heap.size + 1 + 1 + 1 + 1 + 1 + 1 + 1 + 1) 0)) 2 2, .slice (some (aV (w.heap.size + 1 + 1 + 1 + 1 + 1 + 1 + 1 + 1 + 1) 0)) 1 1] 29, .cells #[iV 0, iV 0, .slice (some (aV (w.heap.size + 1 + 1 + 1 + 1 + 1 + 1 + 1 + 1 + 1 + 1 + 1 + 1) 0)) 2 2, .slice none 0 0] 33, .cells #[oV true, oV true, oV true, oV true, oV true, oV false, oV false] 4, .cells #[iV 0, .slice (some (aV (w.heap.size + 1 + 1) 0)) 7 7, .slice none 0 0] 110, .cells #[sV [99]] 9, .cells #[sV [112]] 148, .cells #[.slice (some (aV (w.heap.size + 1 + 1 + 1) 0)) 1 1, .slice (some (aV (w.heap.size + 1 + 1 + 1 + 1) 0)) 1 1, .slice (some (aV (w.heap.size + 1 + 1 + 1 + 1 + 1) 0)) 1 1, .slice (some (aV (w.heap.size + 1 + 1 + 1 + 1 + 1 + 1 + 1) 0)) 2 2, .slice (some (aV (w.heap.size + 1 + 1 + 1 + 1 + 1 + 1 + 1 + 1) 0)) 2 2, .slice (some (aV (w.heap.size + 1 + 1 + 1 + 1 + 1 + 1 + 1 + 1 + 1) 0)) 1 1] 29, .cells #[sV [97], iV 0, iV 0, iV 2, iV 1, iV 10, .slice none 0 0, sV [98], iV 0, iV 0, iV 2, iV 1, iV 10, .slice none 0 0] 54, .cells #[sV [108], iV 0, iV 1, iV 480, iV 120, iV 1, sV [109], iV 1, iV 0, iV 600, iV 60, iV 1] 52, .cells #[sV [107], iV 1020, iV 720] 135, .cells #[iV (-1), iV 0] 3, .cells #[iV 1, iV (-1)] 3, .cells #[.slice (some (aV (w.heap.size + 1 + 1 + 1 + 1 + 1 + 1 + 1 + 1 + 1 + 1) 0)) 2 2, .slice (some (aV (w.heap.size + 1 + 1 + 1 + 1 + 1 + 1 + 1 + 1 + 1 + 1 + 1) 0)) 2 2] 46]) = W at *
 have h0 := HG.out 0 _ rfl
 have h1 := HG.out 1 _ rfl
 have h2 := HG.out 2 _ rfl
 have h3 := HG.out 3 _ rfl
 have h4 := HG.out 4 _ rfl
 have h5 := HG.out 5 _ rfl
 have h6 := HG.out 6 _ rfl
 have h7 := HG.out 7 _ rfl
 have h8 := HG.out 8 _ rfl
 have h9 := HG.out 9 _ rfl
 have h10 := HG.out 10 _ rfl
 have h11 := HG.out 11 _ rfl
 have h12 := HG.out 12 _ rfl
 have n0 : W.cell? (aV w.heap.size 0) = some (.slice (some (aV (w.heap.size + 1 + 1 + 1) 0)) 1 1) := aA 0 h0
 have n1 : W.cell? (aV w.heap.size 1) = some (.slice (some (aV (w.heap.size + 1 + 1 + 1 + 1) 0)) 1 1) := aA 1 h0
 have n2 : W.cell? (aV w.heap.size 2) = some (.slice (some (aV (w.heap.size + 1 + 1 + 1 + 1 + 1) 0)) 1 1) := aA 2 h0
 have n3 : W.cell? (aV w.heap.size 3) = some (.slice (some (aV (w.heap.size + 1 + 1 + 1 + 1 + 1 + 1 + 1) 0)) 2 2) := aA 3 h0
 have n4 : W.cell? (aV w.heap.size 4) = some (.slice (some (aV (w.heap.size + 1 + 1 + 1 + 1 + 1 + 1 + 1 + 1) 0)) 2 2) := aA 4 h0
 have n5 : W.cell? (aV w.heap.size 5) = some (.slice (some (aV (w.heap.size + 1 + 1 + 1 + 1 + 1 + 1 + 1 + 1 + 1) 0)) 1 1) := aA 5 h0
 have p0 : W.cell? (aV (w.heap.size + 1) 0) = some (iV 0) := aA 0 h1
 have p1 : W.cell? (aV (w.heap.size + 1) 1) = some (iV 0) := aA 1 h1
 have p2 : W.cell? (aV (w.heap.size + 1) 2) = some (.slice (some (aV (w.heap.size + 1 + 1 + 1 + 1 + 1 + 1 + 1 + 1 + 1 + 1 + 1 + 1) 0)) 2 2) := aA 2 h1
 have p3 : W.cell? (aV (w.heap.size + 1) 3) = some (.slice none 0 0) := aA 3 h1
 have e1 : (loadVar 29 (aV w.heap.size 0)).run Tryz.prog W = .ok (bB (exW (some (aV (w.heap.size + 1 + 1) 0)) (some (aV (w.heap.size + 1 + 1 + 1) 0)) (some (aV (w.heap.size + 1 + 1 + 1 + 1) 0)) (some (aV (w.heap.size + 1 + 1 + 1 + 1 + 1) 0)) (some (aV (w.heap.size + 1 + 1 + 1 + 1 + 1 + 1 + 1) 0)) (some (aV (w.heap.size + 1 + 1 + 1 + 1 + 1 + 1 + 1 + 1) 0)) (some (aV (w.heap.size + 1 + 1 + 1 + 1 + 1 + 1 + 1 + 1 + 1) 0)))) W := by
  simp [loadVar, go_sem, n0, n1, n2, n3, n4, n5, exW]
 have e2 : (loadVar 33 (aV (w.heap.size + 1) 0)).run Tryz.prog W = .ok (dI 0 0 (some (aV (w.heap.size + 1 + 1 + 1 + 1 + 1 + 1 + 1 + 1 + 1 + 1 + 1 + 1) 0)) 2 2 none 0 0) W := by
  simp [loadVar, go_sem, p0, p1, p2, p3]
 refine bodyPost_ret (v := .tuple #[bB (exW (some (aV (w.heap.size + 1 + 1) 0)) (some (aV (w.heap.size + 1 + 1 + 1) 0)) (some (aV (w.heap.size + 1 + 1 + 1 + 1) 0)) (some (aV (w.heap.size + 1 + 1 + 1 + 1 + 1) 0)) (some (aV (w.heap.size + 1 + 1 + 1 + 1 + 1 + 1 + 1) 0)) (some (aV (w.heap.size + 1 + 1 + 1 + 1 + 1 + 1 + 1 + 1) 0)) (some (aV (w.heap.size + 1 + 1 + 1 + 1 + 1 + 1 + 1 + 1 + 1) 0))), dI 0 0 (some (aV (w.heap.size + 1 + 1 + 1 + 1 + 1 + 1 + 1 + 1 + 1 + 1 + 1 + 1) 0)) 2 2 none 0 0]) (by simp [results, Tryz.results31, asAddr, e1, e2]) rfl
  ⟨_, _, _, _, _, _, _, _, _, _, rfl, ?_, tab_exW h10 h11 h12, HB.out⟩
 exact exW_in (cv h2) (cv h3) (cv h4) (cv h5) (cv h7) (cv h8) (cv h9)
end Go.Proofs.YtpeaiphdkgifaaaGreatDoor
