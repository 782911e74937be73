/-
  What holds of items all the time, in plain Lean. Laws of histories, in plain Lean: losses, cancellations, a further hold, items alone. An item that is held, where an item is, and the way of an item alone, in plain Lean. Tables of promises in memory; what promise.Table leaves. (Printed by gen_tab.py.) The walks over the reference's calendar (Local, Time, Work) and over the reference's Depart.
-/
import Derived.Test.YtpeaiphdkgifaaaGreatDoorWbp
import Derived.Test.YtpeaiphdkgifaaaGreatDoorWba
import Derived.Test.YtpeaiphdkgifaaaGreatDoorWbc
import Derived.Test.YtpeaiphdkgifaaaGreatDoorWat
import Derived.Test.YtpeaiphdkgifaaaGreatDoorWac
import Derived.Test.YtpeaiphdkgifaaaGreatDoorWbi
namespace Go.Proofs.YtpeaiphdkgifaaaGreatDoor
open Go.RowKit
set_option maxHeartbeats 20000000
set_option maxRecDepth 100000
theorem path_last {n : Net} : ∀ {l : List St} {es : List (List UInt8)}, PathOk n l es -> (lastSt l).depart = -1 /\ (lastSt l).line = -1
 | [_], [], h => h
 | _ :: b :: l, _ :: es, h => by
  have := path_last h.2
  simpa [lastSt] using this
theorem path_get {n : Net} : ∀ {l : List St} {es : List (List UInt8)} {m : Nat} {a b : St}, PathOk n l es -> l[m]? = some a -> l[m + 1]? = some b -> ∃ e, es[m]? = some e /\ Hop n a b e
 | [_], [], m, a, b, h, h1, h2 => by simp at h2
 | x :: y :: l, e :: es, 0, a, b, h, h1, h2 => by
  simp at h1 h2
  subst h1 h2
  exact ⟨e, rfl, h.1⟩
 | x :: y :: l, e :: es, m + 1, a, b, h, h1, h2 => by
  simp only [List.getElem?_cons_succ] at h1 h2 ⊢
  exact path_get h.2 h1 h2
theorem Moves.end_ {n : Net} {nx : List NsC} {canc : List Int} {dst t : Int} {it x : Itm} (h : Moves n nx canc dst t it x) : ¬ (0 <= x.line /\ x.leave < t) := by
 induction h with
 | stay h => exact h
 | go _ _ _ ih => exact ih
theorem step_dec (n : Net) (nx : List NsC) (canc : List Int) (dst : Int) (it : Itm) : (stepI n nx canc dst it).stops.dropLast = it.stops.dropLast ++ [{ lastSt it.stops with depart := it.leave, line := it.line }] := gone_dec it
theorem Moves.split {n : Net} {nx : List NsC} {canc : List Int} {dst t u : Int} {it x e : Itm} (h : Moves n nx canc dst t it x) (k : Moves n nx canc dst u it e) (htu : t <= u) : Moves n nx canc dst u x e := by
 induction h with
 | stay _ => exact k
 | go h _ _ ih =>
  cases k with
  | stay k => exact absurd ⟨h.1, by omega⟩ k
  | go _ _ k => exact ih k
theorem Moves.same {n : Net} {nx : List NsC} {canc : List Int} {dst t : Int} {it x : Itm} (h : Moves n nx canc dst t it x) : SameI it x := by
 induction h with
 | stay _ => exact SameI.refl _
 | @go it _ _ _ _ ih => exact SameI.trans (b := stepI n nx canc dst it) ⟨rfl, rfl, rfl, rfl⟩ ih
theorem Moves.ok {n : Net} {nx : List NsC} {canc : List Int} {dst t : Int} {it x : Itm} (hG : Good n) (hF : Formed n nx) (hd : 0 <= dst /\ dst < n.offs.length) (h : Moves n nx canc dst t it x) : ItOk n it -> DecOk n nx canc dst it -> ItT t it -> ItOk n x /\ DecOk n nx canc dst x /\ ItT t x := by
 induction h with
 | stay _ => exact fun a b c => ⟨a, b, c⟩
 | @go it _ h1 h2 _ ih =>
  intro a b c
  have hg := goneI_ok hG hF a hd b h1.1 h2
  refine ih ⟨hg.path, hg.head, hg.len, hg.offs, hg.labs, hg.sin⟩ (decide_ok _ _ _ _ _) ⟨fun s hs => ?_, c.up, c.sin, c.head⟩
  rw [step_dec] at hs
  rcases List.mem_append.1 hs with hs | hs
  ·exact c.dep s hs
  ·rw [List.mem_singleton.1 hs]
   exact h1.2
theorem Moves.pre {n : Net} {nx : List NsC} {canc : List Int} {dst t : Int} {it x : Itm} (h : Moves n nx canc dst t it x) : ∃ r, x.stops = it.stops.dropLast ++ r /\ (it.stops ≠ [] -> r ≠ []) := by
 induction h with
 | @stay it _ =>
  by_cases hn : it.stops = []
  ·exact ⟨[], by rw [hn]; rfl, fun h => absurd hn h⟩
  ·exact ⟨[lastSt it.stops], snoc_of hn, fun _ => by simp⟩
 | @go it _ _ _ _ ih =>
  obtain ⟨r, h1, h2⟩ := ih
  rw [step_dec] at h1
  refine ⟨{ lastSt it.stops with depart := it.leave, line := it.line } :: r, by rw [h1]; simp, fun _ => by simp⟩
theorem held_end {n : Net} {nx : List NsC} (hG : Good n) (hF : Formed n nx) {p q : Ded} {ha hb : Hst} (hp : p.kind = 1) (hq : q.kind = 3) (hl : q.label = p.post.label) (hd : DedsOk n [] 0 [p, q]) (h1 : runR n nx [p] = some ha) (h2 : runR n nx [p, q] = some hb) :
  ∃ (e f : Itm) (k : Nat) (s t : St), ha.items = [e] /\ hb.items = [f] /\ e.stops[k]? = some s /\ f.stops[k]? = some t /\ e.stops.take k = f.stops.take k /\ (∀ i < k, ∃ u, e.stops[i]? = some u /\ u.depart < q.time) /\ (k + 1 = e.stops.length ∨ (k + 1 < e.stops.length /\ q.time <= s.depart)) /\
   ((s.line = -1 /\ t = s) ∨ (0 <= s.line /\ s.line < n.lins.length /\ if (depT n s.line (s.depart + 1)).2 = 0 then t.line = s.line /\ t.depart = (depT n s.line (s.depart + 1)).1 else t.depart = -1)) := by
 obtain ⟨d1, d2, d3, d4, d5, d6, -⟩ := hd
 obtain ⟨e, he, hme⟩ := run_post hp h1
 have hdst : 0 <= p.post.dst /\ p.post.dst < n.offs.length := by
  rcases d3 with ⟨-, -, -, -, h, -⟩ | ⟨h, -⟩ | ⟨h, -⟩ | ⟨h, -⟩
  ·exact h
  all_goals omega
 have HA : HsOk n nx ([] ++ [p]) p.time (actR n nx ⟨[], []⟩ p) := HsOk.act (d := p) (h := ⟨[], []⟩) ⟨rfl, List.Pairwise.nil, fun _ h => (by cases h), fun _ h => (by cases h), fun _ h => (by cases h), fun _ h => (by cases h), fun _ h => (by cases h)⟩ d3 d1 d2
 have hact : actR n nx ⟨[], []⟩ p = ⟨[decideI n nx [] p.post.dst (newI p.post)], []⟩ := by
  unfold actR
  rw [if_pos hp]
  rfl
 rw [hact] at HA
 have hi0 := HA.item _ (List.mem_singleton.2 rfl)
 have ht0 := HA.time _ (List.mem_singleton.2 rfl)
 -- the second history
 unfold runR at h2
 rw [runF_acts, show [p, q] = [p] ++ [q] from rfl, actsF_app, acts_post hp] at h2
 obtain ⟨a, ha2, h2⟩ := Option.bind_eq_some_iff.1 h2
 obtain ⟨l, hl2, rfl⟩ := Option.map_eq_some_iff.1 h2
 have ha3 : actsF n nx [q] ⟨[decideI n nx [] p.post.dst (newI p.post)], []⟩ = some a := ha2
 rw [actsF] at ha3
 cases hpr : procF n nx ([] : List Int) q.time [decideI n nx [] p.post.dst (newI p.post)] [decideI n nx [] p.post.dst (newI p.post)] with
 | none => rw [hpr] at ha3; cases ha3
 | some l1 =>
  rw [hpr] at ha3
  obtain ⟨x, rfl, hmx⟩ := proc_one hpr
  rw [newI_to] at hmx
  have hsx := hmx.same
  have hxl : x.post.label = q.label := by rw [hsx.post, hl]; rfl
  have hax : a = ⟨[holdI n x], []⟩ := by
   have : actR n nx ⟨[x], []⟩ q = a := Option.some.inj ha3
   rw [<- this]
   unfold actR
   rw [if_neg (by omega), if_neg (by omega), if_pos hq]
   simp [hxl]
  subst hax
  obtain ⟨f, rfl, hmf⟩ := proc_one hl2
  obtain ⟨xok, xdec, xt⟩ := hmx.ok hG hF hdst hi0 (decide_ok _ _ _ _ _) (ht0.mono d4)
  have hxe := hmx.split hme (by show q.time <= bigT; unfold bigT; omega)
  have hne := path_ne xok.path
  have hxs := snoc_of hne
  obtain ⟨k, hk⟩ : ∃ k, x.stops.dropLast.length = k := ⟨_, rfl⟩
  have hkl : x.stops.length = k + 1 := by
   have := congrArg List.length hxs
   rw [List.length_append, hk] at this
   simpa using this
  have hlast := path_last xok.path
  have hxk : x.stops[k]? = some (lastSt x.stops) := by
   rw [hxs, List.getElem?_append_right (by omega), hk]
   simp [lastSt_snoc]
  have hdrop : ∀ i < k, ∃ u, x.stops.dropLast[i]? = some u /\ u.depart < q.time := fun i hi => by
   obtain ⟨u, hu⟩ : ∃ u, x.stops.dropLast[i]? = some u := ⟨_, List.getElem?_eq_getElem (by omega)⟩
   exact ⟨u, hu, xt.dep u (List.mem_of_getElem? hu)⟩
  by_cases hx0 : x.line < 0
  ·have e1 : e = x := by
    cases hxe with
    | stay _ => rfl
    | go h _ _ => have := h.1; omega
   subst e1
   have hf : f = holdI n e /\ (holdI n e).stops = e.stops := by
    have hh : (holdI n e).line < 0 /\ (holdI n e).stops = e.stops := by
     unfold holdI
     rw [if_pos hx0]
     exact ⟨hx0, rfl⟩
    cases hmf with
    | stay _ => exact ⟨rfl, hh.2⟩
    | go h _ _ => have := h.1; omega
   refine ⟨e, f, k, lastSt e.stops, lastSt e.stops, he, rfl, hxk, by rw [hf.1, hf.2]; exact hxk, by rw [hf.1, hf.2], fun i hi => ?_, .inl hkl.symm, .inl ⟨hlast.2, rfl⟩⟩
   obtain ⟨u, hu, hu2⟩ := hdrop i hi
   exact ⟨u, by rw [hxs, List.getElem?_append_left (by omega)]; exact hu, hu2⟩
  ·have hgo := goes_hop hG hF xok hdst xdec (by omega)
   have hend := hmx.end_
   have hlv : q.time <= x.leave := by
    by_cases h : q.time <= x.leave
    ·exact h
    ·exact absurd ⟨by omega, by omega⟩ hend
   cases hxe with
   | stay h => exact absurd ⟨by omega, by unfold bigT; omega⟩ h
   | go h h20 hm =>
    obtain ⟨r, hr, hr0⟩ := hm.pre
    rw [step_dec] at hr
    have hrn := hr0 (by unfold stepI decideI goneI; simp)
    have hes : e.stops = x.stops.dropLast ++ ({ lastSt x.stops with depart := x.leave, line := x.line } :: r) := by rw [hr]; simp
    have hek : e.stops[k]? = some { lastSt x.stops with depart := x.leave, line := x.line } := by
     rw [hes, List.getElem?_append_right (by omega), hk, Nat.sub_self]
     rfl
    have hel : k + 1 < e.stops.length := by
     rw [hes, List.length_append, hk, List.length_cons]
     have := List.length_pos_iff.2 hrn
     omega
    have hbef : ∀ i < k, ∃ u, e.stops[i]? = some u /\ u.depart < q.time := fun i hi => by
     obtain ⟨u, hu, hu2⟩ := hdrop i hi
     exact ⟨u, by rw [hes, List.getElem?_append_left (by omega)]; exact hu, hu2⟩
    have htk : e.stops.take k = x.stops.dropLast := by rw [hes, <- hk, List.take_left]
    have hto : toOf [holdI n x] (holdI n x) = p.post.dst := by
     have hh : (holdI n x).post = x.post /\ (holdI n x).labs = x.labs := by
      unfold holdI
      split
      ·exact ⟨rfl, rfl⟩
      ·split <;> exact ⟨rfl, rfl⟩
     rw [toOf_self (by rw [hh.1, hh.2, hsx.labs, hsx.post]; rfl), hh.1, hsx.post]
     rfl
    rw [hto] at hmf
    by_cases hdp : (depT n x.line (x.leave + 1)).2 = 0
    ·have hh : holdI n x = { x with holds := x.holds + 1, leave := (depT n x.line (x.leave + 1)).1 } := by
      unfold holdI
      rw [if_neg hx0, if_pos hdp]
     have hd9 := depT_ok (v := (depT n x.line (x.leave + 1)).1) (t := x.leave + 1) hG (show 0 <= x.line by omega) hgo.1 (by rw [<- hdp])
     rw [hh] at hmf
     cases hmf with
     | stay h9 => exact absurd ⟨by show 0 <= x.line; omega, by show (depT n x.line (x.leave + 1)).1 < bigT; unfold bigT; omega⟩ h9
     | go _ _ hm9 =>
      obtain ⟨r9, hr9, -⟩ := hm9.pre
      rw [step_dec] at hr9
      have hfs : f.stops = x.stops.dropLast ++ ({ lastSt x.stops with depart := (depT n x.line (x.leave + 1)).1, line := x.line } :: r9) := by rw [hr9]; simp
      refine ⟨e, f, k, _, { lastSt x.stops with depart := (depT n x.line (x.leave + 1)).1, line := x.line }, he, rfl, hek, ?_, ?_, hbef, .inr ⟨hel, hlv⟩, .inr ⟨by show 0 <= x.line; omega, hgo.1, ?_⟩⟩
      ·rw [hfs, List.getElem?_append_right (by omega), hk, Nat.sub_self]
       rfl
      ·rw [htk, hfs, <- hk, List.take_left]
      ·show if (depT n x.line (x.leave + 1)).2 = 0 then _ else _
       rw [if_pos hdp]
       exact ⟨rfl, rfl⟩
    ·have hh : holdI n x = { x with holds := x.holds + 1, line := -1, leave := 0 } := by
      unfold holdI
      rw [if_neg hx0, if_neg hdp]
     rw [hh] at hmf
     have hfs : f.stops = x.stops := by
      cases hmf with
      | stay _ => rfl
      | go h9 _ _ => have : (0 : Int) <= -1 := h9.1; omega
     refine ⟨e, f, k, _, lastSt x.stops, he, rfl, hek, by rw [hfs]; exact hxk, ?_, hbef, .inr ⟨hel, hlv⟩, .inr ⟨by show 0 <= x.line; omega, hgo.1, ?_⟩⟩
     ·rw [htk, hfs, hxs, <- hk, List.take_left]
      simp
     ·show if (depT n x.line (x.leave + 1)).2 = 0 then _ else _
      rw [if_neg hdp]
      exact hlast.1
theorem cell_keepW {w w' : World} (hb : Below w.heap.size w w') {b i : Nat} {v : Value} (h : w.cell? ⟨b, i, none⟩ = some v) : w'.cell? ⟨b, i, none⟩ = some v := (hb.cell (p := ⟨b, i, none⟩) (World.block_lt_of_cell? w _ h)).trans h
section
attribute [local go_sem] Oper.semAt_some
theorem take_one {α : Type} {l : List α} {k : Nat} {x : α} (h : l[k]? = some x) : l.take (k + 1) = l.take k ++ [x] := by rw [List.take_add_one, h]; rfl
theorem tmod_fix (a b : Int) (hb : 0 < b) : a % b = if a.tmod b < 0 then a.tmod b + b else a.tmod b := by
 have ht1 := Int.tmod_lt_of_pos a hb
 have ht2 : -b < a.tmod b := by
  have := Int.tmod_lt_of_pos (-a) hb
  rw [Int.neg_tmod] at this
  omega
 rcases (by omega : a < 0 ∨ 0 <= a) with h | h
 ·by_cases hz : a.tmod b < 0
  ·rw [if_pos hz]
   have hd := Int.mul_tdiv_add_tmod a b
   have key : a % b = ((a.tmod b + b) + b * (a.tdiv b - 1)) % b := by
    congr 1
    rw [Int.mul_sub, Int.mul_one]
    omega
   rw [key, Int.add_mul_emod_self_left]
   exact Int.emod_eq_of_lt (by omega) (by omega)
  ·rw [if_neg hz]
   have hd := Int.mul_tdiv_add_tmod a b
   have : a = a.tmod b + b * a.tdiv b := by omega
   rw [show a % b = (a.tmod b + b * a.tdiv b) % b by rw [<- this], Int.add_mul_emod_self_left]
   exact Int.emod_eq_of_lt (by omega) ht1
 ·have hz : ¬ a.tmod b < 0 := by have := Int.tmod_nonneg b h; omega
  rw [if_neg hz]
  exact (Int.tmod_eq_emod_of_nonneg h).symm
theorem floor_any (d : Int) (w : World) (hd : dayR d = true) : Calls Tryz.prog 105 #[iV d, iV 7] w fun e w' => (∃ q, e = .returned (.tuple #[iV q, iV (d % 7)])) /\ w = w' := by
 have hd' : -1000000 <= d /\ d <= 1000000 := by unfold dayR at hd; simpa using hd
 obtain ⟨d1, d2⟩ := hd'
 have ht1 := Int.tmod_lt_of_pos d (show (0 : Int) < 7 by omega)
 have ht2 : -7 < d.tmod 7 := by
  have := Int.tmod_lt_of_pos (-d) (show (0 : Int) < 7 by omega)
  rw [Int.neg_tmod] at this
  omega
 have hq := Int.mul_tdiv_add_tmod d 7
 have hq1 : -1000001 <= d.tdiv 7 := by omega
 have hq2 : d.tdiv 7 <= 1000001 := by omega
 have HE := Lib.hid (tmod_fix d 7 (by omega))
 clear hd hq
 by_cases hz : d.tmod 7 < 0
 ·go_enter Tryz.func105, Tryz.ntmps105
  go_wp2_with fail
  go_ret2
  exact ⟨⟨d.tdiv 7 - 1, by rw [HE.out, if_pos hz]; rfl⟩, rfl⟩
 ·go_enter Tryz.func105, Tryz.ntmps105
  go_wp2_with fail
  go_ret2
  exact ⟨⟨d.tdiv 7, by rw [HE.out, if_neg (by omega)]; rfl⟩, rfl⟩
theorem range02_any (d : Int) (w : World) (hd : dayR d = true) : Calls Tryz.prog 150 #[iV d] w fun e w' => e = .returned (.bool true) /\ w = w' := by
 have hd' : -1000000 <= d /\ d <= 1000000 := by unfold dayR at hd; simpa using hd
 obtain ⟨d1, d2⟩ := hd'
 clear hd
 go_enter Tryz.func150, Tryz.ntmps150
 go_wp2_with fail
 go_ret
 exact ⟨rfl, rfl⟩
theorem holi02_any (c : Cal) (d : Int) (w : World) (hc : CalIn w c) (hv : calB c = true) :
  Calls Tryz.prog 184 #[calV c, iV d] w fun e w' => e = .returned (.bool (decide (d ∈ c.hol))) /\ Below w.heap.size w w' := by
 obtain ⟨-, -, hA, -, -, -⟩ := hc
 have HB := Lib.hid (ba w (.cells (encCal c).toArray 110))
 have HA := Lib.hid (hA.below HB.out); clear hA
 have hh := (calB_zone hv).2.2.2.1
 have hbox := cal_box w c 110
 unfold encCal at HA HB hbox
 obtain ⟨k0, k1, k2⟩ := hbox
 clear hv
 go_enter Tryz.func184, Tryz.ntmps184
 go_upto_region 1 with fail
 change Code.wp _ _ _ _ (w.alloc (.cells #[iV c.zone, .slice c.wA c.week.length c.wc, .slice c.hA c.hol.length c.hc] 110))
 generalize (w.alloc (.cells #[iV c.zone, .slice c.wA c.week.length c.wc, .slice c.hA c.hol.length c.hc] 110)) = W0 at *
 go_wp2_with fail
 go_loop [5] (fun i => ∃ k : Nat, k <= c.hol.length /\ i = iV k /\ d ∉ c.hol.take k) (fun i => c.hol.length + 1 - (intOf i).toNat)
 case atStart => exact ⟨0, by omega, rfl, by simp⟩
 case round =>
 obtain ⟨k, hk, rfl, hno⟩ := hrel
 have HN := Lib.hid hno; clear hno
 have j0 : (0 : Int) <= (k : Int) := by omega
 by_cases hlt : k < c.hol.length
 case neg =>
  have j1 : ¬ (k : Int) < (c.hol.length : Int) := by omega
  have HR : Hid (decide (d ∈ c.hol) = false) := decide_eq_false (fun h => HN.out (by rw [List.take_of_length_le (by omega)]; exact h))
  go_wp2_with fail
  go_ret
  exact ⟨ret_bool HR.out.symm, HB.out⟩
 have HLT := Lib.hid hlt
 have j1 : (k : Int) < (c.hol.length : Int) := by omega
 obtain ⟨x, hx⟩ : ∃ x, c.hol[k]? = some x := ⟨_, List.getElem?_eq_getElem hlt⟩
 obtain ⟨b, off, hAA, -, hcc⟩ := HA.out.get (i := k) (by simpa using hlt)
 have e1 : W0.cell? ⟨b, off + k, none⟩ = some (iV x) := hcc k _ (by rw [List.getElem?_map, hx]; rfl)
 have HXE := Lib.hid hx
 have HAE := Lib.hid hAA
 rw [hAA] at k2
 clear hAA hcc hx
 by_cases hxd : x = d
 case pos =>
  have e2 : (x == d) = true := by simpa using hxd
  have HR : Hid (decide (d ∈ c.hol) = true) := decide_eq_true (by rw [<- hxd]; exact List.mem_of_getElem? HXE.out)
  clear hxd
  go_wp2_with fail
  go_ret
  exact ⟨ret_bool HR.out.symm, HB.out⟩
 have e2 : (x == d) = false := by simpa using hxd
 have HR : Hid (d ∉ c.hol.take (k + 1)) := by
  show d ∉ _
  rw [take_one HXE.out]
  intro h
  rcases List.mem_append.1 h with h | h
  ·exact HN.out h
  ·exact hxd (List.mem_singleton.1 h).symm
 clear hxd
 go_wp2_with fail
 go_round
 case rel => exact ⟨k + 1, by have := HLT.out; omega, by go_num, HR.out⟩
 case measure => have := HLT.out; simp [intOf]; omega
theorem working02_any (c : Cal) (d : Int) (w : World) (hc : CalIn w c) (hv : calB c = true) (hd : dayR d = true) :
  Calls Tryz.prog 151 #[calV c, iV d] w fun e w' => e = .returned (.bool (workB c d)) /\ Below w.heap.size w w' := by
 have HB := Lib.hid (ba w (.cells (encCal c).toArray 110))
 have HC := Lib.hid (hc.below HB.out); clear hc
 have HL7 := Lib.hid (calB_zone hv).2.2.1
 have hbox := cal_box w c 110
 have HV := Lib.hid hv
 have HD := Lib.hid hd
 unfold encCal at HC HB hbox
 obtain ⟨k0, k1, k2⟩ := hbox
 obtain ⟨m, hm⟩ : ∃ m : Nat, d % 7 = (m : Int) := ⟨(d % 7).toNat, by omega⟩
 have hm7 : m < 7 := by omega
 have HWB : Hid (workB c d = (c.week.getD m false && !decide (d ∈ c.hol))) := by
  show _ = _
  unfold workB
  rw [hm]
  rfl
 have HM := Lib.hid hm
 clear hv hd hm
 go_enter Tryz.func151, Tryz.ntmps151
 go_upto_region 1 with fail
 change Code.wp _ _ _ _ (w.alloc (.cells #[iV c.zone, .slice c.wA c.week.length c.wc, .slice c.hA c.hol.length c.hc] 110))
 generalize (w.alloc (.cells #[iV c.zone, .slice c.wA c.week.length c.wc, .slice c.hA c.hol.length c.hc] 110)) = W0 at *
 go_wp2_with fail
 refine (floor_any d _ HD.out).mono ?_
 rintro e w' ⟨⟨q, rfl⟩, rfl⟩
 rw [HM.out]
 obtain ⟨b, off, hAA, -, hcc⟩ := HC.out.2.1.get (i := m) (by have := HL7.out; simp; omega)
 obtain ⟨wm, hwm⟩ : ∃ x, c.week[m]? = some x := ⟨_, List.getElem?_eq_getElem (by have := HL7.out; omega)⟩
 have e1 : W0.cell? ⟨b, off + m, none⟩ = some (oV wm) := hcc m _ (by rw [List.getElem?_map, hwm]; rfl)
 have HW2 : Hid (workB c d = (wm && !decide (d ∈ c.hol))) := by
  show _ = _
  rw [HWB.out, List.getD, hwm]
  rfl
 have HAE := Lib.hid hAA
 rw [hAA] at k1
 clear hAA hcc hwm HWB
 have m0 : (0 : Int) <= (m : Int) := by omega
 have m1 : (m : Int) < (c.week.length : Int) := by have := HL7.out; omega
 cases wm
 case false =>
  go_wp2_with fail
  go_ret
  exact ⟨ret_bool (by rw [HW2.out]; rfl), HB.out⟩
 go_wp2_with fail
 have HHO : Hid (∀ W, CalIn W c -> Calls Tryz.prog 184 #[.agg #[iV c.zone, .slice (some ⟨b, off, none⟩) c.week.length c.wc, .slice c.hA c.hol.length c.hc], iV d] W fun e w' => e = .returned (.bool (!workB c d)) /\ Below W.heap.size W w') := fun W h => by
  have := holi02_any c d W h HV.out
  rw [show decide (d ∈ c.hol) = !workB c d by rw [HW2.out]; simp] at this
  unfold calV at this
  rwa [HAE.out] at this
 clear HW2
 generalize hQ : workB c d = q2 at *
 have HQ := Lib.hid hQ; clear hQ
 refine (HHO.out _ HC.out).mono ?_
 rintro e w1 ⟨rfl, hb⟩
 have HB1 := Lib.hid (bt HB.out hb); clear hb
 cases q2
 all_goals
  go_wp2_with fail
  go_ret
  exact ⟨ret_bool (by rw [HQ.out]), HB1.out⟩
theorem work02_any (c : Cal) (d : Int) (w : World) (hc : CalIn w c) (hv : calB c = true) (hd : dayR d = true) :
  Calls Tryz.prog 107 #[calV c, iV d] w fun e w' => e = .returned (.bool (workB c d)) /\ Below w.heap.size w w' := by
 have HB := Lib.hid (ba w (.cells (encCal c).toArray 110))
 have HC := Lib.hid (hc.below HB.out); clear hc
 have hbox := heap_alloc_new w (.cells (encCal c).toArray 110)
 have HV := Lib.hid hv
 have HD := Lib.hid hd
 unfold encCal at HC HB hbox
 have HX := Lib.hid hbox
 have k0 : (w.alloc (.cells #[iV c.zone, .slice c.wA c.week.length c.wc, .slice c.hA c.hol.length c.hc] 110)).cell? ⟨w.heap.size, 0, none⟩ = some (iV c.zone) := cell_of_row _ _ 0 _ _ _ hbox
 have k1 : (w.alloc (.cells #[iV c.zone, .slice c.wA c.week.length c.wc, .slice c.hA c.hol.length c.hc] 110)).cell? ⟨w.heap.size, 1, none⟩ = some (.slice c.wA c.week.length c.wc) := cell_of_row _ _ 1 _ _ _ hbox
 have k2 : (w.alloc (.cells #[iV c.zone, .slice c.wA c.week.length c.wc, .slice c.hA c.hol.length c.hc] 110)).cell? ⟨w.heap.size, 2, none⟩ = some (.slice c.hA c.hol.length c.hc) := cell_of_row _ _ 2 _ _ _ hbox
 clear hv hd hbox
 go_enter Tryz.func107, Tryz.ntmps107
 go_upto_region 1 with fail
 change Code.wp _ _ _ _ (w.alloc (.cells #[iV c.zone, .slice c.wA c.week.length c.wc, .slice c.hA c.hol.length c.hc] 110))
 generalize (w.alloc (.cells #[iV c.zone, .slice c.wA c.week.length c.wc, .slice c.hA c.hol.length c.hc] 110)) = W0 at *
 go_wp2_with fail
 refine (rvalid_any c _ HC.out).mono ?_
 rintro e w1 ⟨rfl, hb⟩
 rw [HV.out]
 have HB1 := Lib.hid (bt HB.out hb)
 have HC1 := Lib.hid (HC.out.below hb)
 have hx := (hb.block _ (block_lt HX.out)).trans HX.out
 clear hb k0 k1 k2 HX
 have k0 : w1.cell? ⟨w.heap.size, 0, none⟩ = some (iV c.zone) := cell_of_row _ _ 0 _ _ _ hx
 have k1 : w1.cell? ⟨w.heap.size, 1, none⟩ = some (.slice c.wA c.week.length c.wc) := cell_of_row _ _ 1 _ _ _ hx
 have k2 : w1.cell? ⟨w.heap.size, 2, none⟩ = some (.slice c.hA c.hol.length c.hc) := cell_of_row _ _ 2 _ _ _ hx
 clear hx
 go_wp2_with fail
 refine (range02_any d _ HD.out).mono ?_
 rintro e w' ⟨rfl, rfl⟩
 go_wp2_with fail
 refine (working02_any c d _ HC1.out HV.out HD.out).mono ?_
 rintro e w2 ⟨rfl, hb⟩
 have HB2 := Lib.hid (bt HB1.out hb); clear hb
 go_wp2_with fail
 go_ret
 exact ⟨rfl, HB2.out⟩
theorem time02_any (c : Cal) (d m : Int) (w : World) (hc : CalIn w c) (hv : calB c = true) (hd : dayR d = true) (h1 : 0 <= m) (h2 : m < 1440) :
  Calls Tryz.prog 106 #[calV c, iV d, iV m] w fun e w' => e = .returned (iV (timeOf c d m)) /\ Below w.heap.size w w' := by
 have HB := Lib.hid (ba w (.cells (encCal c).toArray 110))
 have HC := Lib.hid (hc.below HB.out); clear hc
 have hbox := heap_alloc_new w (.cells (encCal c).toArray 110)
 have HV := Lib.hid hv
 have HD := Lib.hid hd
 obtain ⟨z1, z2, -⟩ := calB_zone hv
 have hd' : -1000000 <= d /\ d <= 1000000 := by unfold dayR at hd; simpa using hd
 obtain ⟨d1, d2⟩ := hd'
 have m2 : ¬ 1439 < m := by omega
 unfold encCal at HC HB hbox
 have HX := Lib.hid hbox
 have k0 : (w.alloc (.cells #[iV c.zone, .slice c.wA c.week.length c.wc, .slice c.hA c.hol.length c.hc] 110)).cell? ⟨w.heap.size, 0, none⟩ = some (iV c.zone) := cell_of_row _ _ 0 _ _ _ hbox
 have k1 : (w.alloc (.cells #[iV c.zone, .slice c.wA c.week.length c.wc, .slice c.hA c.hol.length c.hc] 110)).cell? ⟨w.heap.size, 1, none⟩ = some (.slice c.wA c.week.length c.wc) := cell_of_row _ _ 1 _ _ _ hbox
 have k2 : (w.alloc (.cells #[iV c.zone, .slice c.wA c.week.length c.wc, .slice c.hA c.hol.length c.hc] 110)).cell? ⟨w.heap.size, 2, none⟩ = some (.slice c.hA c.hol.length c.hc) := cell_of_row _ _ 2 _ _ _ hbox
 clear hv hd hbox
 go_enter Tryz.func106, Tryz.ntmps106
 go_upto_region 1 with fail
 change Code.wp _ _ _ _ (w.alloc (.cells #[iV c.zone, .slice c.wA c.week.length c.wc, .slice c.hA c.hol.length c.hc] 110))
 generalize (w.alloc (.cells #[iV c.zone, .slice c.wA c.week.length c.wc, .slice c.hA c.hol.length c.hc] 110)) = W0 at *
 go_wp2_with fail
 refine (rvalid_any c _ HC.out).mono ?_
 rintro e w1 ⟨rfl, hb⟩
 rw [HV.out]
 have HB1 := Lib.hid (bt HB.out hb)
 have hx := (hb.block _ (block_lt HX.out)).trans HX.out
 clear hb k0 k1 k2 HX
 have k0 : w1.cell? ⟨w.heap.size, 0, none⟩ = some (iV c.zone) := cell_of_row _ _ 0 _ _ _ hx
 clear hx
 go_wp2_with fail
 refine (range02_any d _ HD.out).mono ?_
 rintro e w' ⟨rfl, rfl⟩
 go_wp2_with fail
 go_ret
 exact ⟨ret_int (by unfold timeOf; omega), HB1.out⟩
theorem floorD_any (d : Int) (w : World) (h1 : -3000000 <= d) (h2 : d <= 3000000) : Calls Tryz.prog 105 #[iV d, iV 1440] w fun e w' => (∃ r, e = .returned (.tuple #[iV (d / 1440), iV r])) /\ w = w' := by
 have ht1 := Int.tmod_lt_of_pos d (show (0 : Int) < 1440 by omega)
 have ht2 : -1440 < d.tmod 1440 := by
  have := Int.tmod_lt_of_pos (-d) (show (0 : Int) < 1440 by omega)
  rw [Int.neg_tmod] at this
  omega
 have hq := Int.mul_tdiv_add_tmod d 1440
 have hq1 : -3000001 <= d.tdiv 1440 := by omega
 have hq2 : d.tdiv 1440 <= 3000001 := by omega
 by_cases hz : d.tmod 1440 < 0
 ·have HE : Hid (d.tdiv 1440 - 1 = d / 1440) := by show _ = _; omega
  clear hq
  go_enter Tryz.func105, Tryz.ntmps105
  go_wp2_with fail
  go_ret2
  exact ⟨⟨_, by rw [<- HE.out]; rfl⟩, rfl⟩
 ·have HE : Hid (d.tdiv 1440 = d / 1440) := by show _ = _; omega
  clear hq
  go_enter Tryz.func105, Tryz.ntmps105
  go_wp2_with fail
  go_ret2
  exact ⟨⟨_, by rw [<- HE.out]; rfl⟩, rfl⟩
theorem local02_any (c : Cal) (t : Int) (w : World) (hc : CalIn w c) (hv : calB c = true) (h1 : 0 <= t) (h2 : t <= 2000000) :
  Calls Tryz.prog 47 #[calV c, iV t] w fun e w' => (∃ r, e = .returned (.tuple #[iV (dayOf c t), iV r])) /\ Below w.heap.size w w' := by
 have HB := Lib.hid (ba w (.cells (encCal c).toArray 110))
 have HC := Lib.hid (hc.below HB.out); clear hc
 have hbox := heap_alloc_new w (.cells (encCal c).toArray 110)
 have HV := Lib.hid hv
 obtain ⟨z1, z2, -⟩ := calB_zone hv
 unfold encCal at HC HB hbox
 have HX := Lib.hid hbox
 have k0 : (w.alloc (.cells #[iV c.zone, .slice c.wA c.week.length c.wc, .slice c.hA c.hol.length c.hc] 110)).cell? ⟨w.heap.size, 0, none⟩ = some (iV c.zone) := cell_of_row _ _ 0 _ _ _ hbox
 have k1 : (w.alloc (.cells #[iV c.zone, .slice c.wA c.week.length c.wc, .slice c.hA c.hol.length c.hc] 110)).cell? ⟨w.heap.size, 1, none⟩ = some (.slice c.wA c.week.length c.wc) := cell_of_row _ _ 1 _ _ _ hbox
 have k2 : (w.alloc (.cells #[iV c.zone, .slice c.wA c.week.length c.wc, .slice c.hA c.hol.length c.hc] 110)).cell? ⟨w.heap.size, 2, none⟩ = some (.slice c.hA c.hol.length c.hc) := cell_of_row _ _ 2 _ _ _ hbox
 clear hv hbox
 go_enter Tryz.func47, Tryz.ntmps47
 go_upto_region 1 with fail
 change Code.wp _ _ _ _ (w.alloc (.cells #[iV c.zone, .slice c.wA c.week.length c.wc, .slice c.hA c.hol.length c.hc] 110))
 generalize (w.alloc (.cells #[iV c.zone, .slice c.wA c.week.length c.wc, .slice c.hA c.hol.length c.hc] 110)) = W0 at *
 go_wp2_with fail
 refine (rvalid_any c _ HC.out).mono ?_
 rintro e w1 ⟨rfl, hb⟩
 rw [HV.out]
 have HB1 := Lib.hid (bt HB.out hb)
 have hx := (hb.block _ (block_lt HX.out)).trans HX.out
 clear hb k0 k1 k2 HX
 have k0 : w1.cell? ⟨w.heap.size, 0, none⟩ = some (iV c.zone) := cell_of_row _ _ 0 _ _ _ hx
 clear hx
 go_wp2_with fail
 refine (floorD_any (t + c.zone) _ (by omega) (by omega)).mono ?_
 rintro e w' ⟨⟨r, rfl⟩, rfl⟩
 go_wp2_with fail
 go_ret2
 exact ⟨⟨r, rfl⟩, HB1.out⟩
theorem right13_any (n : Net) (l t : Int) (w : World) (hn : NetIn w n) (hf : FewN n) (hs : Sound n) (h0 : 0 <= l) (h1 : l < n.lins.length) :
  Calls Tryz.prog 46 #[netV n, iV l, iV t] w fun e w' => e = .returned (.bool (tOk t)) /\ Below w.heap.size w w' := by
 have hb0 := ba w (netO n)
 have hx0 := heap_alloc_new w (netO n)
 have HNP : Hid (NetP (w.alloc (netO n)) w.heap.size n) := ⟨fun i v hv => (cell_of_row _ _ _ _ _ _ hx0).trans hv, hn.below hb0⟩
 have HB0 := Lib.hid hb0
 have HFS := Lib.hid (And.intro hf hs)
 clear hn hf hs hb0 hx0
 go_enter Tryz.func46, Tryz.ntmps46
 go_upto_region 1 with fail
 change Code.wp _ _ _ _ (w.alloc (netO n))
 generalize (w.alloc (netO n)) = W at *
 generalize hX : w.heap.size = X at *
 have HX := Lib.hid hX; clear hX
 have n0 : W.cell? ⟨X, 0, none⟩ = some (.slice n.calA n.cals.length n.calC) := HNP.out.box 0 _ rfl
 have n1 : W.cell? ⟨X, 1, none⟩ = some (.slice n.namA n.names.length n.namC) := HNP.out.box 1 _ rfl
 have n2 : W.cell? ⟨X, 2, none⟩ = some (.slice n.opA n.ops.length n.opC) := HNP.out.box 2 _ rfl
 have n3 : W.cell? ⟨X, 3, none⟩ = some (.slice n.offA n.offs.length n.offC) := HNP.out.box 3 _ rfl
 have n4 : W.cell? ⟨X, 4, none⟩ = some (.slice n.linA n.lins.length n.linC) := HNP.out.box 4 _ rfl
 have n5 : W.cell? ⟨X, 5, none⟩ = some (.slice n.clsA n.clss.length n.clsC) := HNP.out.box 5 _ rfl
 go_wp2_with fail
 refine (rsound_iff n _ HNP.out.net HFS.out.1).mono ?_
 rintro e w1 ⟨⟨b, rfl, hb⟩, hbl⟩
 obtain rfl : b = true := hb.2 HFS.out.2
 have HB1 : Hid (Below w.heap.size w w1) := by have h := HB0.out; rw [<- HX.out] at h; exact bt h hbl
 have n4 : w1.cell? ⟨X, 4, none⟩ = some (.slice n.linA n.lins.length n.linC) := (HNP.out.below hbl).box 4 _ rfl
 clear hb hbl n0 n1 n2 n3 n5
 by_cases h2 : 0 <= t
 ·have HR : Hid (tOk t = decide (t <= 2000000)) := by show _ = _; unfold tOk; simp [h2]
  go_wp2_with fail
  go_ret
  exact ⟨ret_bool HR.out.symm, HB1.out⟩
 ·have HR : Hid (tOk t = false) := by show _ = _; unfold tOk; simp [h2]
  have h3 : t < 0 := by omega
  clear h2
  go_wp2_with fail
  go_ret
  exact ⟨ret_bool HR.out.symm, HB1.out⟩
structure LinC (n : Net) (l o ci : Nat) : Prop where
 hl : l < n.lins.length
 ho : o < n.offs.length
 frm : (linAt n l).frm = (o : Int)
 hci : ci < n.cals.length
 cal : (offAt n o).cal = (ci : Int)
 get : n.cals[ci]? = some (calAt n o)
 ok : calB (calAt n o) = true
 at_ : 0 <= (linAt n l).at_ /\ (linAt n l).at_ < 1440
theorem linC_of {n : Net} (hG : Good n) {l : Nat} (hl : l < n.lins.length) : ∃ o ci, LinC n l o ci /\ o = (linAt n l).frm.toNat := by
 have hL := hG.lin _ (List.mem_of_getElem? (linAt_get hl))
 obtain ⟨ci, c1, c2, c3⟩ := hG.calAt (o := (linAt n l).frm.toNat) (by omega)
 exact ⟨(linAt n l).frm.toNat, ci, ⟨hl, by omega, by omega, (List.getElem?_eq_some_iff.1 c2).1, c1, c2, c3, hL.2.2.1, hL.2.2.2.1⟩, rfl⟩
def calO (c : Cal) : Obj := .cells #[iV c.zone, .slice c.wA c.week.length c.wc, .slice c.hA c.hol.length c.hc] 110
theorem on13_any (n : Net) (l o ci : Nat) (d : Int) (w : World) (hn : NetIn w n) (hc : LinC n l o ci) (hd : dayR d = true) :
  Calls Tryz.prog 48 #[netV n, iV l, iV d] w fun e w' => e = .returned (.tuple #[iV (timeOf (calAt n o) d (linAt n l).at_), .bool (workB (calAt n o) d)]) /\ Below w.heap.size w w' := by
 have hb0 := ba w (netO n)
 have hx0 := heap_alloc_new w (netO n)
 have HNP : Hid (NetP (w.alloc (netO n)) w.heap.size n) := ⟨fun i v hv => (cell_of_row _ _ _ _ _ _ hx0).trans hv, hn.below hb0⟩
 have HB0 := Lib.hid hb0
 have HLC := Lib.hid hc
 have HD := Lib.hid hd
 obtain ⟨hll, lb, lo, hlA, hlb, hl0, hlc⟩ := elem_at encLin_len HNP.out.net.lins (linAt_get hc.hl) (by omega)
 obtain ⟨hoo, ob, oo, hoA, hob, -, hoc⟩ := elem_at encOff_len HNP.out.net.offs (offAt_get hc.ho) (by omega)
 obtain ⟨hcc9, cb, co, hcA, hcb, hc0, hcc⟩ := elem_at encCal_len HNP.out.net.cals hc.get (by omega)
 have n0 : (w.alloc (netO n)).cell? ⟨w.heap.size, 0, none⟩ = some (.slice n.calA n.cals.length n.calC) := HNP.out.box 0 _ rfl
 have n3 : (w.alloc (netO n)).cell? ⟨w.heap.size, 3, none⟩ = some (.slice n.offA n.offs.length n.offC) := HNP.out.box 3 _ rfl
 have n4 : (w.alloc (netO n)).cell? ⟨w.heap.size, 4, none⟩ = some (.slice n.linA n.lins.length n.linC) := HNP.out.box 4 _ rfl
 have l0 : (w.alloc (netO n)).cell? ⟨lb, lo + l * 6, none⟩ = some (sV (linAt n l).name) := hl0 _ rfl
 have l1 : (w.alloc (netO n)).cell? ⟨lb, lo + l * 6 + 1, none⟩ = some (iV o) := by have := hlc 1 _ rfl; rw [this]; exact congrArg (fun x => some (iV x)) hc.frm
 have l2 : (w.alloc (netO n)).cell? ⟨lb, lo + l * 6 + 2, none⟩ = some (iV (linAt n l).to) := hlc 2 _ rfl
 have l3 : (w.alloc (netO n)).cell? ⟨lb, lo + l * 6 + 3, none⟩ = some (iV (linAt n l).at_) := hlc 3 _ rfl
 have l4 : (w.alloc (netO n)).cell? ⟨lb, lo + l * 6 + 4, none⟩ = some (iV (linAt n l).travel) := hlc 4 _ rfl
 have l5 : (w.alloc (netO n)).cell? ⟨lb, lo + l * 6 + 5, none⟩ = some (iV (linAt n l).load) := hlc 5 _ rfl
 have o2 : (w.alloc (netO n)).cell? ⟨ob, oo + o * 7 + 2, none⟩ = some (iV ci) := by have := hoc 2 _ rfl; rw [this]; exact congrArg (fun x => some (iV x)) hc.cal
 have c0 : (w.alloc (netO n)).cell? ⟨cb, co + ci * 3, none⟩ = some (iV (calAt n o).zone) := hc0 _ rfl
 have c1 : (w.alloc (netO n)).cell? ⟨cb, co + ci * 3 + 1, none⟩ = some (.slice (calAt n o).wA (calAt n o).week.length (calAt n o).wc) := hcc 1 _ rfl
 have c2 : (w.alloc (netO n)).cell? ⟨cb, co + ci * 3 + 2, none⟩ = some (.slice (calAt n o).hA (calAt n o).hol.length (calAt n o).hc) := hcc 2 _ rfl
 rw [hoA] at n3
 rw [hcA] at n0
 rw [hlA] at n4
 have HCI := Lib.hid (HNP.out.net.cal _ (List.mem_of_getElem? hc.get))
 have j1 : (0 : Int) <= (o : Int) := by omega
 have j2 : (o : Int) < (n.offs.length : Int) := by have := hc.ho; omega
 have j3 : (0 : Int) <= (ci : Int) := by omega
 have j4 : (ci : Int) < (n.cals.length : Int) := by have := hc.hci; omega
 have j5 : (0 : Int) <= (l : Int) := by omega
 have j6 : (l : Int) < (n.lins.length : Int) := by have := hc.hl; omega
 have HOK := Lib.hid (And.intro hc.ok hc.at_)
 clear hn hc hd hoc hc0 hcc hl0 hlc hob hcb hlb hoA hcA hlA hx0 hb0 HLC
 generalize calAt n o = C at *
 generalize linAt n l = L at *
 go_enter Tryz.func48, Tryz.ntmps48
 go_upto_region 1 with fail
 change Code.wp _ _ _ _ (w.alloc (netO n))
 generalize (w.alloc (netO n)) = W0 at *
 go_upto_region 2 with fail
 have HBA := Lib.hid (ba W0 (.cells #[sV L.name, iV o, iV L.to, iV L.at_, iV L.travel, iV L.load] 52))
 have hxl := heap_alloc_new W0 (.cells #[sV L.name, iV o, iV L.to, iV L.at_, iV L.travel, iV L.load] 52)
 replace n0 := cell_keepW HBA.out n0
 replace n3 := cell_keepW HBA.out n3
 replace o2 := cell_keepW HBA.out o2
 replace c0 := cell_keepW HBA.out c0
 replace c1 := cell_keepW HBA.out c1
 replace c2 := cell_keepW HBA.out c2
 have HCI1 := Lib.hid (HCI.out.below HBA.out)
 have HB1 := Lib.hid (bt HB0.out HBA.out)
 change Code.wp _ _ _ _ (W0.alloc (.cells #[sV L.name, iV o, iV L.to, iV L.at_, iV L.travel, iV L.load] 52))
 clear n4 l0 l1 l2 l3 l4 l5 HNP HCI HB0 HBA
 generalize (W0.alloc (.cells #[sV L.name, iV o, iV L.to, iV L.at_, iV L.travel, iV L.load] 52)) = W1 at *
 generalize W0.heap.size = Y at *
 have HXL := Lib.hid hxl
 have x1 : W1.cell? ⟨Y, 1, none⟩ = some (iV o) := cell_of_row _ _ 1 _ _ _ hxl
 clear hxl
 have HS0 : Hid (W1.drew.cell? ⟨w.heap.size, 0, none⟩ = some (.slice (some ⟨cb, co, none⟩) n.cals.length n.calC) /\ W1.drew.cell? ⟨w.heap.size, 3, none⟩ = some (.slice (some ⟨ob, oo, none⟩) n.offs.length n.offC) /\ W1.drew.cell? ⟨Y, 1, none⟩ = some (iV o) /\ W1.drew.cell? ⟨ob, oo + o * 7 + 2, none⟩ = some (iV ci) /\ W1.drew.cell? ⟨cb, co + ci * 3, none⟩ = some (iV C.zone) /\ W1.drew.cell? ⟨cb, co + ci * 3 + 1, none⟩ = some (.slice C.wA C.week.length C.wc) /\ W1.drew.cell? ⟨cb, co + ci * 3 + 2, none⟩ = some (.slice C.hA C.hol.length C.hc)) := ⟨n0, n3, x1, o2, c0, c1, c2⟩
 go_region_held3 (fun w' => w'.cell? ⟨w.heap.size, 0, none⟩ = some (.slice (some ⟨cb, co, none⟩) n.cals.length n.calC) /\ w'.cell? ⟨w.heap.size, 3, none⟩ = some (.slice (some ⟨ob, oo, none⟩) n.offs.length n.offC) /\ w'.cell? ⟨Y, 1, none⟩ = some (iV o) /\ w'.cell? ⟨ob, oo + o * 7 + 2, none⟩ = some (iV ci) /\ w'.cell? ⟨cb, co + ci * 3, none⟩ = some (iV C.zone) /\ w'.cell? ⟨cb, co + ci * 3 + 1, none⟩ = some (.slice C.wA C.week.length C.wc) /\ w'.cell? ⟨cb, co + ci * 3 + 2, none⟩ = some (.slice C.hA C.hol.length C.hc)) (first | (with_reducible exact HS0.out) | go_keep) (fail)
 have hxc := heap_alloc_new W1 (calO C)
 have HBA := Lib.hid (ba W1 (calO C))
 have HB2 := Lib.hid (bt HB1.out HBA.out)
 have HCI2 := Lib.hid (HCI1.out.below HBA.out)
 have HXL2 := Lib.hid ((HBA.out.block _ (block_lt HXL.out)).trans HXL.out)
 clear n0 n3 x1 o2 c0 c1 c2 HS0 HXL HBA HB1 HCI1
 go_upto_region 3 with fail
 change Code.wp _ _ _ _ (World.drew (W1.alloc (calO C)))
 generalize (W1.alloc (calO C)) = W2 at *
 generalize W1.heap.size = Z at *
 have HXC := Lib.hid hxc
 clear hxc
 have HSQ : Hid (∀ w', Below W2.heap.size W2 w' -> w'.cell? ⟨Z, 0, none⟩ = some (iV C.zone) /\ w'.cell? ⟨Z, 1, none⟩ = some (.slice C.wA C.week.length C.wc) /\ w'.cell? ⟨Z, 2, none⟩ = some (.slice C.hA C.hol.length C.hc) /\ w'.cell? ⟨Y, 3, none⟩ = some (iV L.at_)) := fun w' hb =>
  ⟨cell_keepW hb (cell_of_row _ _ 0 _ _ _ HXC.out), cell_keepW hb (cell_of_row _ _ 1 _ _ _ HXC.out), cell_keepW hb (cell_of_row _ _ 2 _ _ _ HXC.out), cell_keepW hb (cell_of_row _ _ 3 _ _ _ HXL2.out)⟩
 have HD0 : Hid (Below W2.heap.size W2 W2.drew.drew) := b_drew (b_drew (Below.refl _ _))
 have HT : Hid (∀ W, Below W2.heap.size W2 W -> Calls Tryz.prog 106 #[.agg #[iV C.zone, .slice C.wA C.week.length C.wc, .slice C.hA C.hol.length C.hc], iV d, iV L.at_] W fun e w' => e = .returned (iV (timeOf C d L.at_)) /\ Below W.heap.size W w') := fun W hb => time02_any C d L.at_ W (HCI2.out.below hb) HOK.out.1 HD.out HOK.out.2.1 HOK.out.2.2
 have HW : Hid (∀ W, Below W2.heap.size W2 W -> Calls Tryz.prog 107 #[.agg #[iV C.zone, .slice C.wA C.week.length C.wc, .slice C.hA C.hol.length C.hc], iV d] W fun e w' => e = .returned (.bool (workB C d)) /\ Below W.heap.size W w') := fun W hb => work02_any C d W (HCI2.out.below hb) HOK.out.1 HD.out
 go_region_held3 (fun w' => w'.cell? ⟨Z, 0, none⟩ = some (iV C.zone) /\ w'.cell? ⟨Z, 1, none⟩ = some (.slice C.wA C.week.length C.wc) /\ w'.cell? ⟨Z, 2, none⟩ = some (.slice C.hA C.hol.length C.hc) /\ w'.cell? ⟨Y, 3, none⟩ = some (iV L.at_)) (first | (with_reducible exact HSQ.out _ HD0.out) | (with_reducible exact HSQ.out _ HU1.out) | (with_reducible exact HSQ.out _ HU2.out)) (first
  | (go_at_call 106; refine (HT.out _ HD0.out).mono ?_; rintro e u1 ⟨rfl, hb1⟩; have HU1 := Lib.hid (bt HD0.out hb1); clear hb1)
  | (go_at_call 107; refine (HW.out _ HU1.out).mono ?_; rintro e u2 ⟨rfl, hb1⟩; have HU2 := Lib.hid (bt HU1.out hb1); clear hb1)
  | fail)
 go_wp2_with fail
 go_ret2
 exact ⟨rfl, bt HB2.out HU2.out⟩
theorem dep13_some {c : Cal} {m t : Int} {k : Nat} (h1 : 0 <= m) (h2 : m < 1440) (hno : ∀ D, dayOf c t <= D -> D < dayOf c t + k -> workB c D = true -> timeOf c D m < t ∨ t + 86400 <= timeOf c D m) (hw : workB c (dayOf c t + k) = true) (g1 : t <= timeOf c (dayOf c t + k) m) (g2 : timeOf c (dayOf c t + k) m < t + 86400) : firstR c m t = (timeOf c (dayOf c t + k) m, 0) :=
 tim_some h1 h2 hw g1 g2 fun D d1 d2 d3 => by
  rcases hno D d1 d2 d3 with h | h
  ·exact h
  ·unfold timeOf at h g2 ⊢
   omega
theorem depart13_any (n : Net) (l o ci : Nat) (t : Int) (w : World) (hn : NetIn w n) (hf : FewN n) (hs : Sound n) (hc : LinC n l o ci) :
  Calls Tryz.prog 19 #[netV n, iV l, iV t] w fun e w' => e = .returned (.tuple #[iV (departR (calAt n o) (linAt n l) t).1, iV (departR (calAt n o) (linAt n l) t).2]) /\ Below w.heap.size w w' := by
 have hb0 := ba w (netO n)
 have hx0 := heap_alloc_new w (netO n)
 have HNP : Hid (NetP (w.alloc (netO n)) w.heap.size n) := ⟨fun i v hv => (cell_of_row _ _ _ _ _ _ hx0).trans hv, hn.below hb0⟩
 have HB0 := Lib.hid hb0
 have HFS := Lib.hid (And.intro hf hs)
 have HLC := Lib.hid hc
 have j5 : (0 : Int) <= (l : Int) := by omega
 have j6 : (l : Int) < (n.lins.length : Int) := by have := hc.hl; omega
 clear hn hf hs hb0 hx0 hc
 go_enter Tryz.func19, Tryz.ntmps19
 go_upto_region 1 with fail
 change Code.wp _ _ _ _ (w.alloc (netO n))
 generalize (w.alloc (netO n)) = W at *
 generalize hX : w.heap.size = X at *
 have HX := Lib.hid hX; clear hX
 have n0 : W.cell? ⟨X, 0, none⟩ = some (.slice n.calA n.cals.length n.calC) := (HNP.out).box 0 _ rfl
 have n1 : W.cell? ⟨X, 1, none⟩ = some (.slice n.namA n.names.length n.namC) := (HNP.out).box 1 _ rfl
 have n2 : W.cell? ⟨X, 2, none⟩ = some (.slice n.opA n.ops.length n.opC) := (HNP.out).box 2 _ rfl
 have n3 : W.cell? ⟨X, 3, none⟩ = some (.slice n.offA n.offs.length n.offC) := (HNP.out).box 3 _ rfl
 have n4 : W.cell? ⟨X, 4, none⟩ = some (.slice n.linA n.lins.length n.linC) := (HNP.out).box 4 _ rfl
 have n5 : W.cell? ⟨X, 5, none⟩ = some (.slice n.clsA n.clss.length n.clsC) := (HNP.out).box 5 _ rfl
 go_wp2_with fail
 refine (right13_any n l t _ HNP.out.net HFS.out.1 HFS.out.2 j5 j6).mono ?_
 rintro e w1 ⟨rfl, hb⟩
 have HB1 := Lib.hid hb
 have HBW : Hid (∀ W', Below W.heap.size W W' -> Below w.heap.size w W') := fun W' hb => by have h := HB0.out; rw [<- HX.out] at h; exact bt h hb
 clear hb n0 n1 n2 n3 n4 n5
 cases ht : tOk t
 case false =>
  have HR : Hid (departR (calAt n o) (linAt n l) t = (0, 1)) := by show _ = _; unfold departR; rw [if_neg (by rw [ht]; decide)]
  clear ht
  go_wp2_with fail
  go_ret2
  exact ⟨by rw [HR.out]; rfl, HBW.out _ HB1.out⟩
 case true =>
 have HR : Hid (departR (calAt n o) (linAt n l) t = firstR (calAt n o) (linAt n l).at_ t) := by show _ = _; unfold departR; rw [if_pos ht]
 have t12 : 0 <= t /\ t <= 2000000 := by unfold tOk at ht; simpa using ht
 obtain ⟨t1, t2⟩ := t12
 clear ht
 have HN1 := Lib.hid (HNP.out.below HB1.out)
 obtain ⟨hll, lb, lo, hlA, hlb, -, hlc⟩ := elem_at encLin_len HN1.out.net.lins (linAt_get HLC.out.hl) (by omega)
 obtain ⟨hoo, ob, oo, hoA, hob, -, hoc⟩ := elem_at encOff_len HN1.out.net.offs (offAt_get HLC.out.ho) (by omega)
 obtain ⟨hcc9, cb, co, hcA, hcb, hc0, hcc⟩ := elem_at encCal_len HN1.out.net.cals HLC.out.get (by omega)
 have n0 : w1.cell? ⟨X, 0, none⟩ = some (.slice n.calA n.cals.length n.calC) := HN1.out.box 0 _ rfl
 have n3 : w1.cell? ⟨X, 3, none⟩ = some (.slice n.offA n.offs.length n.offC) := HN1.out.box 3 _ rfl
 have n4 : w1.cell? ⟨X, 4, none⟩ = some (.slice n.linA n.lins.length n.linC) := HN1.out.box 4 _ rfl
 have l1 : w1.cell? ⟨lb, lo + l * 6 + 1, none⟩ = some (iV o) := by have := hlc 1 _ rfl; rw [this]; exact congrArg (fun x => some (iV x)) HLC.out.frm
 have o2 : w1.cell? ⟨ob, oo + o * 7 + 2, none⟩ = some (iV ci) := by have := hoc 2 _ rfl; rw [this]; exact congrArg (fun x => some (iV x)) HLC.out.cal
 have c0 : w1.cell? ⟨cb, co + ci * 3, none⟩ = some (iV (calAt n o).zone) := hc0 _ rfl
 have c1 : w1.cell? ⟨cb, co + ci * 3 + 1, none⟩ = some (.slice (calAt n o).wA (calAt n o).week.length (calAt n o).wc) := hcc 1 _ rfl
 have c2 : w1.cell? ⟨cb, co + ci * 3 + 2, none⟩ = some (.slice (calAt n o).hA (calAt n o).hol.length (calAt n o).hc) := hcc 2 _ rfl
 rw [hoA] at n3
 rw [hcA] at n0
 rw [hlA] at n4
 have HCI := Lib.hid (HN1.out.net.cal _ (List.mem_of_getElem? HLC.out.get))
 have j1 : (0 : Int) <= (o : Int) := by omega
 have j2 : (o : Int) < (n.offs.length : Int) := by have := HLC.out.ho; omega
 have j3 : (0 : Int) <= (ci : Int) := by omega
 have j4 : (ci : Int) < (n.cals.length : Int) := by have := HLC.out.hci; omega
 have HOK := Lib.hid (And.intro HLC.out.ok HLC.out.at_)
 have HON : Hid (∀ (d : Int) (W : World), NetIn W n -> dayR d = true -> Calls Tryz.prog 48 #[netV n, iV l, iV d] W fun e w' => e = .returned (.tuple #[iV (timeOf (calAt n o) d (linAt n l).at_), .bool (workB (calAt n o) d)]) /\ Below W.heap.size W w') := fun d W hn hd => on13_any n l o ci d W hn HLC.out hd
 clear hlc hoc hc0 hcc hlb hob hcb hlA hoA hcA HLC HNP
 generalize hC : calAt n o = C at *
 have HCE := Lib.hid hC
 clear hC
 generalize (linAt n l).at_ = m at *
 generalize hXW : w.heap.size = Xw at *
 have HXW := Lib.hid hXW
 clear hXW
 have HS0 : Hid (w1.drew.cell? ⟨X, 0, none⟩ = some (.slice (some ⟨cb, co, none⟩) n.cals.length n.calC) /\ w1.drew.cell? ⟨X, 3, none⟩ = some (.slice (some ⟨ob, oo, none⟩) n.offs.length n.offC) /\ w1.drew.cell? ⟨X, 4, none⟩ = some (.slice (some ⟨lb, lo, none⟩) n.lins.length n.linC) /\ w1.drew.cell? ⟨lb, lo + l * 6 + 1, none⟩ = some (iV o) /\ w1.drew.cell? ⟨ob, oo + o * 7 + 2, none⟩ = some (iV ci) /\ w1.drew.cell? ⟨cb, co + ci * 3, none⟩ = some (iV C.zone) /\ w1.drew.cell? ⟨cb, co + ci * 3 + 1, none⟩ = some (.slice C.wA C.week.length C.wc) /\ w1.drew.cell? ⟨cb, co + ci * 3 + 2, none⟩ = some (.slice C.hA C.hol.length C.hc)) := ⟨n0, n3, n4, l1, o2, c0, c1, c2⟩
 go_upto_region 3 with fail
 go_region_held3 (fun w' => w'.cell? ⟨X, 0, none⟩ = some (.slice (some ⟨cb, co, none⟩) n.cals.length n.calC) /\ w'.cell? ⟨X, 3, none⟩ = some (.slice (some ⟨ob, oo, none⟩) n.offs.length n.offC) /\ w'.cell? ⟨X, 4, none⟩ = some (.slice (some ⟨lb, lo, none⟩) n.lins.length n.linC) /\ w'.cell? ⟨lb, lo + l * 6 + 1, none⟩ = some (iV o) /\ w'.cell? ⟨ob, oo + o * 7 + 2, none⟩ = some (iV ci) /\ w'.cell? ⟨cb, co + ci * 3, none⟩ = some (iV C.zone) /\ w'.cell? ⟨cb, co + ci * 3 + 1, none⟩ = some (.slice C.wA C.week.length C.wc) /\ w'.cell? ⟨cb, co + ci * 3 + 2, none⟩ = some (.slice C.hA C.hol.length C.hc)) (first | (with_reducible exact HS0.out) | go_keep) (fail)
 have hxc := heap_alloc_new w1 (calO C)
 have HBA := Lib.hid (ba w1 (calO C))
 have HCI2 := Lib.hid (HCI.out.below HBA.out)
 have HB2 := Lib.hid (bt HB1.out HBA.out)
 have HN2 := Lib.hid (HN1.out.below HBA.out)
 clear n0 n3 n4 l1 o2 c0 c1 c2 HS0 HBA HB1 HCI HN1
 go_upto_region 4 with fail
 change Code.wp _ _ _ _ (World.drew (w1.alloc (calO C)))
 replace HB2 : Hid (Below W.heap.size W (World.drew (w1.alloc (calO C)))) := b_drew HB2.out
 replace HN2 : Hid (NetP (World.drew (w1.alloc (calO C))) X n) := HN2.out.below (b_drew (Below.refl _ _))
 replace HCI2 : Hid (CalIn (World.drew (w1.alloc (calO C))) C) := HCI2.out.below (b_drew (Below.refl _ _))
 replace hxc : (World.drew (w1.alloc (calO C))).heap[w1.heap.size]? = some (calO C) := hxc
 generalize (World.drew (w1.alloc (calO C))) = W2 at *
 generalize w1.heap.size = Z at *
 have c0 : W2.cell? ⟨Z, 0, none⟩ = some (iV C.zone) := cell_of_row _ _ 0 _ _ _ hxc
 have c1 : W2.cell? ⟨Z, 1, none⟩ = some (.slice C.wA C.week.length C.wc) := cell_of_row _ _ 1 _ _ _ hxc
 have c2 : W2.cell? ⟨Z, 2, none⟩ = some (.slice C.hA C.hol.length C.hc) := cell_of_row _ _ 2 _ _ _ hxc
 clear hxc
 go_wp2_with fail
 refine (local02_any C t _ HCI2.out HOK.out.1 t1 t2).mono ?_
 rintro e w3 ⟨⟨r, rfl⟩, hb⟩
 replace HB2 := Lib.hid (bt HB2.out hb)
 replace HN2 := Lib.hid (HN2.out.below hb)
 have hday : -1 <= dayOf C t /\ dayOf C t <= 1400 := by
  obtain ⟨z1, z2, -⟩ := calB_zone HOK.out.1
  unfold dayOf
  omega
 obtain ⟨y1, y2⟩ := hday
 clear hb c0 c1 c2 HCI2
 obtain ⟨D0, hD0⟩ : ∃ D0, dayOf C t = D0 := ⟨_, rfl⟩
 have HD0 := Lib.hid hD0
 rw [hD0] at y1 y2 ⊢
 clear hD0
 go_wp2_with fail
 go_loopw [11] (fun i wr => ∃ k : Nat, k <= 62 /\ i = iV (D0 + (k : Int)) /\ Hid (∀ D, D0 <= D -> D < D0 + k -> workB C D = true -> timeOf C D m < t ∨ t + 86400 <= timeOf C D m) /\ Hid (Below w3.heap.size w3 wr)) (fun i _ => (D0 + 63 - intOf i).toNat)
 case atStart => exact ⟨0, by omega, by rw [Int.natCast_zero, Int.add_zero], fun D d1 d2 => by omega, Below.refl _ _⟩
 case round =>
 obtain ⟨k, hk, rfl, HNO, HBR⟩ := hrel
 have k0 : (0 : Int) <= (k : Int) := by omega
 by_cases hlt : k <= 61
 case neg =>
  have k1 : ¬ D0 + (k : Int) <= D0 + 61 := by omega
  have HFR : Hid (firstR C m t = (0, 20)) := tim_none HOK.out.2.1 HOK.out.2.2 fun D d1 d2 d3 => HNO.out D (by have := HD0.out; omega) (by have := HD0.out; omega) d3
  have HBZ := Lib.hid (HBW.out _ (bt HB2.out HBR.out))
  go_wp2_with fail
  go_ret2
  exact ⟨by rw [HCE.out, HR.out, HFR.out]; rfl, by rw [HXW.out]; exact HBZ.out⟩
 have k1 : D0 + (k : Int) <= D0 + 61 := by omega
 have HNW := Lib.hid (HN2.out.below HBR.out)
 have n0 : wr.cell? ⟨X, 0, none⟩ = some (.slice n.calA n.cals.length n.calC) := HNW.out.box 0 _ rfl
 have n1 : wr.cell? ⟨X, 1, none⟩ = some (.slice n.namA n.names.length n.namC) := HNW.out.box 1 _ rfl
 have n2 : wr.cell? ⟨X, 2, none⟩ = some (.slice n.opA n.ops.length n.opC) := HNW.out.box 2 _ rfl
 have n3 : wr.cell? ⟨X, 3, none⟩ = some (.slice n.offA n.offs.length n.offC) := HNW.out.box 3 _ rfl
 have n4 : wr.cell? ⟨X, 4, none⟩ = some (.slice n.linA n.lins.length n.linC) := HNW.out.box 4 _ rfl
 have n5 : wr.cell? ⟨X, 5, none⟩ = some (.slice n.clsA n.clss.length n.clsC) := HNW.out.box 5 _ rfl
 have HDR : Hid (dayR (D0 + (k : Int)) = true) := by show _ = _; unfold dayR; simp; omega
 go_wp2_with fail
 refine (HON.out (D0 + (k : Int)) _ HNW.out.net HDR.out).mono ?_
 rintro e w4 ⟨rfl, hb⟩
 have HB4 := Lib.hid (bt HBR.out hb)
 have hti : -3000000 <= timeOf C (D0 + (k : Int)) m /\ timeOf C (D0 + (k : Int)) m <= 3000000 := by
  obtain ⟨z1, z2, -⟩ := calB_zone HOK.out.1
  have := HOK.out.2
  unfold timeOf
  omega
 obtain ⟨u1, u2⟩ := hti
 have HNX : Hid (∀ (hq : workB C (D0 + k) = true -> timeOf C (D0 + k) m < t ∨ t + 86400 <= timeOf C (D0 + k) m), ∀ D, D0 <= D -> D < D0 + ((k + 1 : Nat) : Int) -> workB C D = true -> timeOf C D m < t ∨ t + 86400 <= timeOf C D m) := fun hq D d1 d2 d3 => by
  by_cases h : D < D0 + k
  ·exact HNO.out D d1 h d3
  ·have : D = D0 + k := by omega
   rw [this] at d3 ⊢
   exact hq d3
 have HSM : Hid (workB C (D0 + k) = true -> t <= timeOf C (D0 + k) m -> timeOf C (D0 + k) m < t + 86400 -> firstR C m t = (timeOf C (D0 + k) m, 0)) := fun h1 h2 h3 => by
  have h4 := HD0.out
  subst h4
  exact dep13_some HOK.out.2.1 HOK.out.2.2 HNO.out h1 h2 h3
 clear hb n0 n1 n2 n3 n4 n5 HNO HBR
 cases hw : workB C (D0 + (k : Int))
 case false =>
  have HN9 := Lib.hid (HNX.out (fun h => by rw [hw] at h; cases h))
  clear hw
  go_wp2_with fail
  go_roundw
  case rel => exact ⟨k + 1, by omega, by go_num, HN9.out, HB4.out⟩
  case measure => simp [intOf]; omega
 have HWB := Lib.hid hw
 clear hw
 generalize htv : timeOf C (D0 + (k : Int)) m = tv at *
 clear htv
 cases hc3 : decide (t <= tv)
 case false =>
  have HN9 := Lib.hid (HNX.out (fun _ => .inl (by have := of_decide_eq_false hc3; omega)))
  go_wp2_with fail
  go_roundw
  case rel => exact ⟨k + 1, by omega, by go_num, HN9.out, HB4.out⟩
  case measure => simp [intOf]; omega
 cases hc4 : decide (tv < t + 86400)
 case false =>
  have HN9 := Lib.hid (HNX.out (fun _ => .inr (by have := of_decide_eq_false hc4; omega)))
  go_wp2_with fail
  go_roundw
  case rel => exact ⟨k + 1, by omega, by go_num, HN9.out, HB4.out⟩
  case measure => simp [intOf]; omega
 have HFR := Lib.hid (HSM.out HWB.out (of_decide_eq_true hc3) (of_decide_eq_true hc4))
 have HBZ := Lib.hid (HBW.out _ (bt HB2.out HB4.out))
 go_wp2_with fail
 go_ret2
 exact ⟨by rw [HCE.out, HR.out, HFR.out]; rfl, by rw [HXW.out]; exact HBZ.out⟩
theorem dep13_any (n : Net) (l t : Int) (w : World) (hn : NetIn w n) (hf : FewN n) (hs : Sound n) (h0 : 0 <= l) (h1 : l < n.lins.length) :
  Calls Tryz.prog 19 #[netV n, iV l, iV t] w fun e w' => e = .returned (.tuple #[iV (depT n l t).1, iV (depT n l t).2]) /\ Below w.heap.size w w' := by
 obtain ⟨k, rfl⟩ : ∃ k : Nat, l = (k : Int) := ⟨l.toNat, by omega⟩
 obtain ⟨o, ci, hc, ho⟩ := linC_of hs.1.good (l := k) (by omega)
 subst ho
 exact depart13_any n k _ ci t w hn hf hs hc
end
end Go.Proofs.YtpeaiphdkgifaaaGreatDoor
