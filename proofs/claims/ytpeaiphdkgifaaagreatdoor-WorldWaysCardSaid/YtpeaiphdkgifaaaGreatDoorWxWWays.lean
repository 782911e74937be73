/-
  Rows that are read, rows that are made: what all walks of the journal's seat use. The walks over promise's small functions of a network behind a pointer. The walks over what panics with an error: demand, must; the code of a panic. Ways in plain Lean; rows of stops. The walk over promise.walk: the way of an item. The walk over Way's deferred closure: it recovers and answers the error's code. The wa
-/
import Derived.Test.YtpeaiphdkgifaaaGreatDoorWbp
import Derived.Test.YtpeaiphdkgifaaaGreatDoorWaa
import Derived.Deep.AppendSrc
import Derived.Deep.AppendLies
import Derived.Deep.DeepMust
import Derived.OwnWalk
import Derived.Deep.RegionHeld3
import Derived.Laws.BytesArg
import Derived.Test.YtpeaiphdkgifaaaGreatDoorWac
import Derived.Defers
import Derived.Recover
import Derived.Test.YtpeaiphdkgifaaaGreatDoorWam
import Derived.Test.YtpeaiphdkgifaaaGreatDoorWbc
import Derived.Test.YtpeaiphdkgifaaaGreatDoorWbd
import Derived.Test.YtpeaiphdkgifaaaGreatDoorWbn
import Derived.Test.YtpeaiphdkgifaaaGreatDoorWbm
import Derived.Test.YtpeaiphdkgifaaaGreatDoorWbi
namespace Go.Proofs.YtpeaiphdkgifaaaGreatDoor
open Go.RowKit
set_option maxHeartbeats 20000000
set_option maxRecDepth 100000
theorem step_app {P : Program} {w : World} {ops : Array Oper} {o : Oper} {a : Act} {K : Act -> World -> Prop} {Q : Exit -> Act -> World -> Prop} {E : Prop} (hgd : o.guard = none) (s x : Operand) (t tx : TypeId)
  (ho : o.op = .call { callee := .builtin .append, args := #[s, x], argTypes := #[t, tx] })
  (base : Nat) (e : TypeId) (i : TypeInfo) (z : Value) (size bytes : Nat) (ht : P.underlying t = some (.slice e)) (hi : P.info? e = some i) (hz : i.zero = some z)
  (hsize : i.size = size) (hby : i.bytes = bytes) (hzs : z.cells.size = size)
  (v : Value) (n : Nat) (xs : List Value) (hs : a.eval s = v) (hown : w.ownsRow base e size v n xs) (vx : Value) (hx : a.eval x = vx) (m : Nat) (news : List Value) (hsrc : Src P size tx vx m news w)
  (h63 : n + m <= maxLen) (hbytes : (n + m) * bytes <= 140737488355328) (hbase : base <= w.heap.size)
  (h : ∀ A c w', w'.ownsRow base e size (.slice A (n + m) c) (n + m) (xs ++ news) -> w.grownBy w' v.ownBlock -> ((Value.slice A (n + m) c).ownBlock = v.ownBlock ∨ (Value.slice A (n + m) c).ownBlock = some w.heap.size) -> K (a.put o.dst (.slice A (n + m) c)) w') :
  if Region.wanted o (yielded ops a.tmps) = true then Oper.wp P o a w K Q else E := by
 have hw : Region.wanted o (yielded ops a.tmps) = true := by simp [Region.wanted, hgd]
 rw [if_pos hw]
 exact wp_app s x t tx ho base e i z size bytes ht hi hz hsize hby hzs v n xs hs hown vx hx m news hsrc h63 hbytes hbase h
theorem depart_any (N : Nat) (n : Net) (l o ci : Nat) (L : Lin) (of : Off) (c : Cal) (t : Int) (w : World) (hN : NetP w N n) (h0 : n.lins[l]? = some L) (hf : L.frm = (o : Int)) (h1 : n.offs[o]? = some of) (h2 : of.cal = (ci : Int)) (h3 : n.cals[ci]? = some c) (hv : calB c = true) (a1 : 0 <= L.at_) (a2 : L.at_ < 1440) :
  Calls Tryz.prog 128 #[.pointer (some ⟨N, 0, none⟩), iV l, iV t] w fun e w' => e = .returned (.tuple #[iV (departR c L t).1, iV (departR c L t).2]) /\ Below w.heap.size w w' := by
 obtain ⟨hl, lb, lo, hlA, hlb, -, hlc⟩ := elem_at encLin_len hN.net.lins h0 (by omega)
 have n4 : w.cell? ⟨N, 4, none⟩ = some (.slice n.linA n.lins.length n.linC) := hN.box 4 _ rfl
 have l1 : w.cell? ⟨lb, lo + l * 6 + 1, none⟩ = some (iV L.frm) := hlc 1 _ rfl
 have l3 : w.cell? ⟨lb, lo + l * 6 + 3, none⟩ = some (iV L.at_) := hlc 3 _ rfl
 rw [hlA] at n4
 rw [hf] at l1
 have HC := Lib.hid (hN.net.cal c (List.mem_of_getElem? h3))
 have HN := Lib.hid hN
 have HH := Lib.hid (And.intro h1 (And.intro h2 h3))
 have HV := Lib.hid hv
 have HSw : Hid (∀ w', Below w.heap.size w w' -> w'.cell? ⟨N, 4, none⟩ = some (.slice (some ⟨lb, lo, none⟩) n.lins.length n.linC) /\ w'.cell? ⟨lb, lo + l * 6 + 1, none⟩ = some (iV (o : Int)) /\ w'.cell? ⟨lb, lo + l * 6 + 3, none⟩ = some (iV L.at_)) := fun w' hb =>
  ⟨(hb.cell (p := ⟨N, 4, none⟩) hN.lt).trans n4, (hb.cell (p := ⟨lb, _, none⟩) hlb).trans l1, (hb.cell (p := ⟨lb, _, none⟩) hlb).trans l3⟩
 have j1 : (0 : Int) <= (l : Int) := by omega
 have j2 : (l : Int) < (n.lins.length : Int) := by omega
 clear hN hlc h0 hlA hlb h1 h2 h3 hv hf
 go_enter Tryz.func128, Tryz.ntmps128
 go_wp2_with fail
 refine (intime_any t _).mono ?_
 rintro e w1 ⟨rfl, rfl⟩
 cases ht : tOk t with
 | false =>
  have HR : Hid (departR c L t = (0, 1)) := by show _ = _; unfold departR; rw [ht]; rfl
  clear ht
  go_wp2_with fail
  go_ret2
  rw [HR.out]
  exact ⟨rfl, Below.refl w.heap.size w⟩
 | true =>
  have HR : Hid (departR c L t = firstR c L.at_ t) := by show _ = _; unfold departR; rw [ht]; rfl
  have ht' := ht
  unfold tOk at ht'
  simp only [Bool.and_eq_true, decide_eq_true_eq] at ht'
  obtain ⟨t1, t2⟩ := ht'
  clear ht
  go_wp2_with fail
  go_region_held3 (fun w' => w'.cell? ⟨N, 4, none⟩ = some (.slice (some ⟨lb, lo, none⟩) n.lins.length n.linC) /\ w'.cell? ⟨lb, lo + l * 6 + 1, none⟩ = some (iV (o : Int)) /\ w'.cell? ⟨lb, lo + l * 6 + 3, none⟩ = some (iV L.at_)) (first | (with_reducible exact HSw.out _ (b_drew (Below.refl _ _))) | (with_reducible exact HSw.out _ HB1.out) | (with_reducible exact HSw.out _ HB2.out)) (first
   | (go_at_call 68; refine (calof_any N n o ci of c _ (HN.out.drewN 1) HH.out.1 HH.out.2.1 HH.out.2.2).mono ?_; rintro e w1 ⟨rfl, hb⟩; have HB1 := Lib.hid (bdr hb); clear hb)
   | (go_at_call 67; refine (first_any c L.at_ t _ (HC.out.below HB1.out) HV.out a1 a2 (by omega) (by omega)).mono ?_; rintro e w2 ⟨rfl, hb⟩; have HB2 := Lib.hid (bt HB1.out hb); clear hb)
   | fail)
  go_wp2_with fail
  go_ret2
  rw [HR.out]
  exact ⟨rfl, HB2.out⟩
abbrev FailE (x : Int) : Ending := .panicked [{ v := .iface 38 (iV x), recovered := false }]
theorem demand_yes (w : World) : Calls Tryz.prog 54 #[.bool true] w fun e w' => e = .returned (.tuple #[]) /\ w = w' := by
 go_enter Tryz.func54, Tryz.ntmps54
 go_wp2
 go_end0
 exact ⟨rfl, rfl⟩
theorem demand_no (w : World) : Calls Tryz.prog 54 #[.bool false] w fun e w' => e = FailE 1 /\ w = w' := by
 go_enter Tryz.func54, Tryz.ntmps54
 go_wp2
 exact ⟨rfl, rfl, rfl⟩
theorem must_yes (x : Int) (w : World) : Calls Tryz.prog 78 #[iV x, iV 0] w fun e w' => e = .returned (iV x) /\ w = w' := by
 go_enter Tryz.func78, Tryz.ntmps78
 go_wp2
 go_ret
 exact ⟨rfl, rfl⟩
theorem must_no (x y : Int) (w : World) (hy : y ≠ 0) : Calls Tryz.prog 78 #[iV x, iV y] w fun e w' => e = FailE y /\ w = w' := by
 have h1 : (y == 0) = false := by simpa using hy
 go_enter Tryz.func78, Tryz.ntmps78
 go_wp2
 exact ⟨rfl, rfl, rfl⟩
theorem code_any (x : Int) (w : World) : Calls Tryz.prog 53 #[.iface 38 (iV x)] w fun e w' => e = .returned (iV x) /\ w = w' := by
 have ht : (Instr.typeAssert (.iface 38 (iV x)) 20 38 true).run Tryz.prog w = .ok (.tuple #[iV x, .bool true]) w := by kernel_rfl
 go_enter Tryz.func53, Tryz.ntmps53
 go_wp2
 go_ret
 exact ⟨rfl, rfl⟩
def wayR (n : Net) (nx : List NsC) (dst : Nat) : Nat -> Nat -> Int -> Int × List St
 | 0, o, t => if o = dst then (0, [⟨o, t, -1, -1⟩]) else if nxAt nx o dst = -1 then (170, []) else
  let d := departR (calAt n o) (linAt n (nxAt nx o dst).toNat) (readyR (offAt n o) t)
  if d.2 = 0 then (170, []) else (d.2, [])
 | f + 1, o, t => if o = dst then (0, [⟨o, t, -1, -1⟩]) else if nxAt nx o dst = -1 then (170, []) else
  let d := departR (calAt n o) (linAt n (nxAt nx o dst).toNat) (readyR (offAt n o) t)
  if d.2 = 0 then
   let r := wayR n nx dst f (linAt n (nxAt nx o dst).toNat).to.toNat (d.1 + (linAt n (nxAt nx o dst).toNat).travel)
   if r.1 = 0 then (0, ⟨o, t, d.1, nxAt nx o dst⟩ :: r.2) else (r.1, [])
  else (d.2, [])
def comb (done : List St) (r : Int × List St) : Int × List St := if r.1 = 0 then (0, done ++ r.2) else (r.1, [])
theorem comb_step (done : List St) (s : St) (r : Int × List St) : comb done (if r.1 = 0 then (0, s :: r.2) else (r.1, [])) = comb (done ++ [s]) r := by
 unfold comb
 by_cases h : r.1 = 0
 ·simp [h]
 ·simp [h]
theorem flat_set {l : List St} {s : St} {x : St} : ((l ++ [x]).flatMap encSt).set (l.length * 4 + 3) (iV s.line) = (l ++ [{ x with line := s.line }]).flatMap encSt /\ ((l ++ [x]).flatMap encSt).set (l.length * 4 + 2) (iV s.depart) = (l ++ [{ x with depart := s.depart }]).flatMap encSt := by
 have hl : (l.flatMap encSt).length = l.length * 4 := by
  induction l with
  | nil => rfl
  | cons a l ih => rw [List.flatMap_cons, List.length_append, ih, encSt_len, List.length_cons]; omega
 simp only [List.flatMap_append, List.flatMap_cons, List.flatMap_nil, List.append_nil]
 constructor
 ·rw [List.set_append_right _ _ (by rw [hl]; omega), hl, Nat.add_sub_cancel_left]
  rfl
 ·rw [List.set_append_right _ _ (by rw [hl]; omega), hl, Nat.add_sub_cancel_left]
  rfl
theorem wayR_nil (n : Net) (nx : List NsC) (d : Nat) : ∀ (f o : Nat) (t : Int), (wayR n nx d f o t).1 ≠ 0 -> (wayR n nx d f o t).2 = []
 | 0, o, t => by
  unfold wayR
  split
  ·intro h; exact absurd rfl h
  ·split
   ·intro _; rfl
   ·dsimp only; split <;> (intro _; rfl)
 | f + 1, o, t => by
  unfold wayR
  split
  ·intro h; exact absurd rfl h
  ·split
   ·intro _; rfl
   ·dsimp only
    split
    ·split
     ·intro h; exact absurd rfl h
     ·intro _; rfl
    ·intro _; rfl
theorem comb_nil (r : Int × List St) (h : r.1 ≠ 0 -> r.2 = []) : comb [] r = r := by
 unfold comb
 by_cases h0 : r.1 = 0
 ·rw [if_pos h0, List.nil_append, <- h0]
 ·rw [if_neg h0, <- h h0]
theorem wayR_at (n : Net) (nx : List NsC) (d f : Nat) (t : Int) : wayR n nx d f d t = (0, [⟨d, t, -1, -1⟩]) := by cases f <;> simp [wayR]
theorem wayR_no (n : Net) (nx : List NsC) (d f o : Nat) (t : Int) (h : o ≠ d) (hl : nxAt nx o d = -1) : wayR n nx d f o t = (170, []) := by cases f <;> simp [wayR, h, hl]
theorem wayR_bad (n : Net) (nx : List NsC) (d f o : Nat) (t : Int) (h : o ≠ d) (hl : nxAt nx o d ≠ -1) (he : (departR (calAt n o) (linAt n (nxAt nx o d).toNat) (readyR (offAt n o) t)).2 ≠ 0) : wayR n nx d f o t = ((departR (calAt n o) (linAt n (nxAt nx o d).toNat) (readyR (offAt n o) t)).2, []) := by cases f <;> simp [wayR, h, hl, he]
theorem wayR_last (n : Net) (nx : List NsC) (d o : Nat) (t : Int) (h : o ≠ d) (hl : nxAt nx o d ≠ -1) (he : (departR (calAt n o) (linAt n (nxAt nx o d).toNat) (readyR (offAt n o) t)).2 = 0) : wayR n nx d 0 o t = (170, []) := by simp [wayR, h, hl, he]
theorem wayR_next (n : Net) (nx : List NsC) (d f o : Nat) (t : Int) (h : o ≠ d) (hl : nxAt nx o d ≠ -1) (he : (departR (calAt n o) (linAt n (nxAt nx o d).toNat) (readyR (offAt n o) t)).2 = 0) (done : List St) :
  comb done (wayR n nx d (f + 1) o t) = comb (done ++ [⟨o, t, (departR (calAt n o) (linAt n (nxAt nx o d).toNat) (readyR (offAt n o) t)).1, nxAt nx o d⟩]) (wayR n nx d f (linAt n (nxAt nx o d).toNat).to.toNat ((departR (calAt n o) (linAt n (nxAt nx o d).toNat) (readyR (offAt n o) t)).1 + (linAt n (nxAt nx o d).toNat).travel)) := by
 rw [<- comb_step]
 congr 1
 rw [wayR]
 rw [if_neg h, if_neg hl]
 simp only [he, if_true]
def WalkR (w : World) (r : Int × List St) (e : Ending) (w' : World) : Prop :=
 Below w.heap.size w w' /\ ((r.1 = 0 /\ ∃ A c, e = .returned (.slice A r.2.length c) /\ w'.ownsRow w.heap.size 50 4 (.slice A r.2.length c) r.2.length (r.2.flatMap encSt)) ∨ (r.1 ≠ 0 /\ e = FailE r.1))
theorem stInfo : (Tryz.prog.info? 50).map (fun i => (i.zero, i.size, i.bytes)) = some (some (.agg #[iV 0, iV 0, iV 0, iV 0]), 4, 32) := by kernel_rfl
theorem own_st (w : World) (s : St) : (w.alloc (.cells #[iV s.office, iV s.arrive, iV s.depart, iV s.line] 50)).ownsRow w.heap.size 50 4 (.slice (some ⟨w.heap.size, 0, none⟩) 1 1) 1 (encSt s) :=
 ⟨rfl, .inr ⟨w.heap.size, 1, _, rfl, Nat.le_refl _, heap_alloc_new _ _, Nat.le_refl _, by decide, rfl, rfl⟩⟩
theorem walk_any (N : Nat) (n : Net) (A : Option Addr) (c : Nat) (nx : List NsC) (o0 d : Nat) (t0 : Int) (w : World) (hN : NetP w N n) (hT : Tab w A nx) (hG : Good n) (hF : Formed n nx) (ho : o0 < n.offs.length) (hd : d < n.offs.length) (ht1 : 0 <= t0) (ht2 : t0 <= 3000000) :
  Calls Tryz.prog 59 #[.pointer (some ⟨N, 0, none⟩), .slice A nx.length c, iV o0, iV d, iV t0] w (WalkR w (wayR n nx d 19 o0 t0)) := by
 obtain ⟨i0, hi0, hz0, hz1, hz2⟩ := info_parts stInfo
 have HN := Lib.hid hN; clear hN
 have HT := Lib.hid hT; clear hT
 have HG := Lib.hid hG; clear hG
 have HF := Lib.hid hF; clear hF
 have hlen := HF.out.1
 have hoff12 := HG.out.few.2.1
 have HLEN := Lib.hid hlen; clear hlen
 go_enter Tryz.func59, Tryz.ntmps59
 go_wp2
 go_loopw [11, 12] (fun v i wr => ∃ (k o : Nat) (t : Int) (done : List St), k = done.length /\ k <= 19 /\ o < n.offs.length /\ 0 <= t /\ t <= 3000000 /\ i = iV k /\ Hid (wr.ownsRow w.heap.size 50 4 v (k + 1) ((done ++ [(⟨o, t, -1, -1⟩ : St)]).flatMap encSt)) /\ Hid (Below w.heap.size w wr) /\ Hid (wayR n nx d 19 o0 t0 = comb done (wayR n nx d (19 - k) o t))) (fun _ i _ => 20 - (intOf i).toNat)
 case atStart =>
  refine ⟨0, o0, t0, [], rfl, by omega, ho, ht1, ht2, rfl, own_st w ⟨o0, t0, -1, -1⟩, ba w _, ?_⟩
  show _ = _
  rw [comb_nil _ (fun h => wayR_nil n nx d 19 o0 t0 h)]
 case round =>
  obtain ⟨k, o, t, done, hk, hk19, hoo, htt1, htt2, rfl, HO, HB, HW⟩ := hrel
  obtain ⟨A2, c2, rfl⟩ := own_form HO.out
  obtain ⟨g, rfl, hg1, hg2, hfz, hcell⟩ := own_blk HO.out (by omega)
  have HK := Lib.hid hk; clear hk
  have cl : ∀ j v, (encSt (⟨o, t, -1, -1⟩ : St))[j]? = some v -> wr.cell? ⟨g, k * 4 + j, none⟩ = some v := fun j v hj => by
   have h1 := flat_get encSt 4 encSt_len (done ++ [(⟨o, t, -1, -1⟩ : St)]) k j (by rw [HK.out]; simp) (by rcases Nat.lt_or_ge j 4 with h | h; exact h; rw [List.getElem?_eq_none (by rw [encSt_len]; exact h)] at hj; cases hj)
   refine hcell _ v (h1.trans ?_)
   have : (done ++ [(⟨o, t, -1, -1⟩ : St)])[k]'(by rw [HK.out]; simp) = ⟨o, t, -1, -1⟩ := by simp [HK.out]
   rw [this]
   exact hj
  have s0 : wr.cell? ⟨g, k * 4, none⟩ = some (iV o) := cl 0 _ rfl
  have s1 : wr.cell? ⟨g, k * 4 + 1, none⟩ = some (iV t) := cl 1 _ rfl
  have s2 : wr.cell? ⟨g, k * 4 + 2, none⟩ = some (iV (-1)) := cl 2 _ rfl
  have s3 : wr.cell? ⟨g, k * 4 + 3, none⟩ = some (iV (-1)) := cl 3 _ rfl
  have j1 : (0 : Int) <= (k : Int) := by omega
  have j2 : (k : Int) < ((k + 1 : Nat) : Int) := by omega
  clear cl hcell
  by_cases hod : o = d
  ·subst hod
   have hR : Hid (wayR n nx o 19 o0 t0 = (0, done ++ [(⟨o, t, -1, -1⟩ : St)])) := by show _ = _; rw [HW.out, wayR_at]; rfl
   have hlk : Hid (k + 1 = (done ++ [(⟨o, t, -1, -1⟩ : St)]).length) := by show _ = _; rw [HK.out]; simp
   go_wp2
   go_ret
   unfold WalkR
   rw [hR.out]
   refine ⟨HB.out, .inl ⟨rfl, some ⟨g, 0, none⟩, c2, ?_, ?_⟩⟩
   ·rw [<- hlk.out]; rfl
   ·rw [<- hlk.out]; exact HO.out
  ·have hne : ((o : Int) != (d : Int)) = true := by simpa using fun h => hod (by omega)
   have hne2 : ((o : Int) == (d : Int)) = false := by simpa using fun h => hod (by omega)
   obtain ⟨r, hr, hrl, hrf⟩ := HF.out.2 o hoo
   have HRF := Lib.hid hrf; clear hrf
   have HRL := Lib.hid hrl; clear hrl
   obtain ⟨hrlt, hre⟩ := List.getElem?_eq_some_iff.1 hr
   have HTr := Lib.hid (HT.out.below HB.out)
   obtain ⟨nb, no, hnA, -, hnc⟩ := HTr.out.rd.get (i := o) (by rw [List.length_map]; exact hrlt)
   have x1 : wr.cell? ⟨nb, no + o, none⟩ = some (slI r) := hnc o _ (by rw [List.getElem?_map, hr]; rfl)
   obtain ⟨rb, ro, hrA, -, hrc⟩ := (HTr.out.row r (List.mem_of_getElem? hr)).1.get (i := d) (by rw [List.length_map, HRL.out]; exact hd)
   have hdl : d < r.ns.length := by rw [HRL.out]; exact hd
   have x2 : wr.cell? ⟨rb, ro + d, none⟩ = some (iV r.ns[d]) := hrc d _ (by simp [hdl])
   have hl : r.ns[d] = nxAt nx o d := by unfold nxAt; simp [List.getD, hr, hdl]
   have hlr := HRF.out _ (List.getElem_mem hdl)
   rw [hl] at x2 hlr
   have HLR := Lib.hid hlr
   have j3 : (o : Int) < (nx.length : Int) := by have := HLEN.out; omega
   have j4 : (d : Int) < (r.ns.length : Int) := by omega
   have j5 : (0 : Int) <= (o : Int) := by omega
   have j6 : (0 : Int) <= (d : Int) := by omega
   have HNA := Lib.hid hnA
   unfold slI at x1
   rw [hrA] at x1
   clear hl hlr hnc hrc hre hr hrA hrlt
   subst hnA
   go_upto_region 7 with fail
   clear x1 x2
   by_cases hno : nxAt nx o d = -1
   ·have hR : Hid (wayR n nx d 19 o0 t0 = (170, [])) := by show _ = _; rw [HW.out, wayR_no n nx d _ o t hod hno]; rfl
    have HNO := Lib.hid hno
    rw [hno]
    clear hno
    go_wp2
    refine ⟨rfl, ?_⟩
    unfold WalkR
    rw [hR.out]
    exact ⟨HB.out, .inr ⟨by decide, rfl⟩⟩
   ·have hno1 : (nxAt nx o d == -1) = false := by simpa using hno
    obtain ⟨hl0, hl1, hl2⟩ := HLR.out.resolve_left hno
    obtain ⟨li, hli⟩ : ∃ li : Nat, (li : Int) = nxAt nx o d := ⟨(nxAt nx o d).toNat, by omega⟩
    have HO1 : Hid ((wr.setCell ⟨g, k * 4 + 3, none⟩ (iV (nxAt nx o d))).ownsRow w.heap.size 50 4 (.slice (some ⟨g, 0, none⟩) (k + 1) c2) (k + 1) ((done ++ [(⟨o, t, -1, nxAt nx o d⟩ : St)]).flatMap encSt)) := by
     have h1 := own_store HO.out (k * 4 + 3) (iV (nxAt nx o d))
     have h2 := (flat_set (l := done) (s := ⟨0, 0, 0, nxAt nx o d⟩) (x := ⟨o, t, -1, -1⟩)).1
     rw [<- HK.out] at h2
     rw [h2] at h1
     exact h1
    have HB1 : Hid (Below w.heap.size w (wr.setCell ⟨g, k * 4 + 3, none⟩ (iV (nxAt nx o d)))) := HB.out.setCell (p := ⟨g, k * 4 + 3, none⟩) hg1 _
    have y0 : (wr.setCell ⟨g, k * 4 + 3, none⟩ (iV (nxAt nx o d))).cell? ⟨g, k * 4, none⟩ = some (iV o) := by rw [World.cell?_setCell_other _ _ _ _ (by simp)]; exact s0
    have y1 : (wr.setCell ⟨g, k * 4 + 3, none⟩ (iV (nxAt nx o d))).cell? ⟨g, k * 4 + 1, none⟩ = some (iV t) := by rw [World.cell?_setCell_other _ _ _ _ (by simp)]; exact s1
    have y2 : (wr.setCell ⟨g, k * 4 + 3, none⟩ (iV (nxAt nx o d))).cell? ⟨g, k * 4 + 2, none⟩ = some (iV (-1)) := by rw [World.cell?_setCell_other _ _ _ _ (by simp)]; exact s2
    have yf : (wr.setCell ⟨g, k * 4 + 3, none⟩ (iV (nxAt nx o d))).frozen? ⟨g, k * 4 + 2, none⟩ = false := by rw [World.frozen?_setCell]; exact hfz _
    have hg3 : g < (wr.setCell ⟨g, k * 4 + 3, none⟩ (iV (nxAt nx o d))).heap.size := World.block_lt_of_cell? _ _ y0
    have hf3 := hfz (k * 4 + 3)
    go_upto_region 10 with fail
    clear s0 s1 s2 s3 hf3 HO HB HTr hfz HNA
    change Code.wp _ _ _ _ (wr.setCell ⟨g, k * 4 + 3, none⟩ (iV (nxAt nx o d)))
    generalize (wr.setCell ⟨g, k * 4 + 3, none⟩ (iV (nxAt nx o d))) = W1 at *
    have HN1 := Lib.hid (HN.out.below HB1.out)
    obtain ⟨ci, hci, hcg, hcb⟩ := HG.out.calAt hoo
    obtain ⟨-, p1, p2, m1, m2⟩ := HG.out.off _ (List.mem_of_getElem? (offAt_get hoo))
    have hli' : (nxAt nx o d).toNat = li := by omega
    rw [hli'] at hl2
    have hlg := linAt_get (n := n) (l := li) (by omega)
    obtain ⟨-, ⟨q1, q2⟩, a1, a2, v1, v2⟩ := HG.out.lin _ (List.mem_of_getElem? hlg)
    have hrr := mul_small p1 p2 m1 m2
    have hrd : -100000000 <= readyR (offAt n o) t /\ readyR (offAt n o) t <= 100000000 := by unfold readyR; omega
    have HRD := Lib.hid hrd; clear hrd hrr
    have HDP : Hid (Calls Tryz.prog 128 #[.pointer (some ⟨N, 0, none⟩), iV li, iV (readyR (offAt n o) t)] W1 fun e w' => True) := (depart_any N n li o ci _ _ _ (readyR (offAt n o) t) W1 HN1.out hlg hl2 (offAt_get hoo) hci hcg hcb a1 a2).mono (fun _ _ _ => trivial)
    have HLI := Lib.hid hli
    have HARG := Lib.hid (And.intro hlg (And.intro hl2 (And.intro hci (And.intro hcg (And.intro hcb (And.intro a1 a2))))))
    have HPM := Lib.hid (And.intro (And.intro p1 p2) (And.intro m1 m2))
    have HNX : Hid ((nxAt nx o d).toNat = li) := hli'
    rw [<- hli]
    clear hli hlg hl2 hci hcg hcb a1 a2 p1 p2 m1 m2 hli' HDP hno1
    have HSw : Hid (∀ w', Below W1.heap.size W1 w' -> w'.cell? ⟨g, k * 4, none⟩ = some (iV (o : Int)) /\ w'.cell? ⟨g, k * 4 + 1, none⟩ = some (iV t)) := fun w' hb =>
     ⟨(hb.cell (p := ⟨g, _, none⟩) hg3).trans y0, (hb.cell (p := ⟨g, _, none⟩) hg3).trans y1⟩
    have HYF := Lib.hid (And.intro y2 yf)
    obtain ⟨D1, D2, hD⟩ : ∃ D1 D2, departR (calAt n o) (linAt n li) (readyR (offAt n o) t) = (D1, D2) := ⟨_, _, rfl⟩
    have HD := Lib.hid hD; clear hD
    by_cases hE : D2 = 0
    ·subst hE
     go_region_held3 (fun w' => w'.cell? ⟨g, k * 4, none⟩ = some (iV (o : Int)) /\ w'.cell? ⟨g, k * 4 + 1, none⟩ = some (iV t)) (first | (with_reducible exact HSw.out _ (b_drew (Below.refl _ _))) | (with_reducible exact HSw.out _ HC1.out) | (with_reducible exact HSw.out _ HC2.out) | (exact ⟨(World.cell?_setCell_other _ _ _ _ (by simp)).trans (HSw.out _ HC2.out).1, (World.cell?_setCell_other _ _ _ _ (by simp)).trans (HSw.out _ HC2.out).2⟩)) (first
      | (go_at_call 129; refine (ready_any N n o (offAt n o) t _ (HN1.out.drewN 1) (offAt_get hoo) HPM.out.1.1 HPM.out.1.2 HPM.out.2.1 HPM.out.2.2 (by omega) (by omega)).mono ?_; rintro e w2 ⟨rfl, hb⟩; have HC1 := Lib.hid (bdr hb); clear hb)
      | (go_at_call 128; refine (depart_any N n li o ci _ _ _ (readyR (offAt n o) t) _ (HN1.out.below HC1.out) HARG.out.1 HARG.out.2.1 (offAt_get hoo) HARG.out.2.2.1 HARG.out.2.2.2.1 HARG.out.2.2.2.2.1 HARG.out.2.2.2.2.2.1 HARG.out.2.2.2.2.2.2).mono ?_; rintro e w3 ⟨rfl, hb⟩; rw [HD.out]; have HC2 := Lib.hid (bt HC1.out hb); clear hb; have y3 : w3.cell? ⟨g, k * 4 + 2, none⟩ = some (iV (-1)) := (HC2.out.cell (p := ⟨g, _, none⟩) hg3).trans HYF.out.1; have yf3 : w3.frozen? ⟨g, k * 4 + 2, none⟩ = false := (HC2.out.frozen (p := ⟨g, _, none⟩) hg3).trans HYF.out.2)
      | (go_at_call 78; refine (must_yes D1 _).mono ?_; rintro e w4 ⟨rfl, rfl⟩)
      | fail)
     have HO2 : Hid ((w3.setCell ⟨g, k * 4 + 2, none⟩ (iV D1)).ownsRow w.heap.size 50 4 (.slice (some ⟨g, 0, none⟩) (k + 1) c2) (k + 1) ((done ++ [(⟨o, t, D1, nxAt nx o d⟩ : St)]).flatMap encSt)) := by
      have h1 := own_store (own_below HO1.out HC2.out) (k * 4 + 2) (iV D1)
      have h2 := (flat_set (l := done) (s := ⟨0, 0, D1, 0⟩) (x := ⟨o, t, -1, nxAt nx o d⟩)).2
      rw [<- HK.out] at h2
      rw [h2] at h1
      exact h1
     have HB2 : Hid (Below w.heap.size w (w3.setCell ⟨g, k * 4 + 2, none⟩ (iV D1))) := (bt HB1.out HC2.out).setCell (p := ⟨g, k * 4 + 2, none⟩) hg1 _
     clear y0 y1 y2 yf y3 yf3 HO1 HYF HSw
     go_upto_region 11 with fail
     change Code.wp _ _ _ _ (w3.setCell ⟨g, k * 4 + 2, none⟩ (iV D1))
     generalize (w3.setCell ⟨g, k * 4 + 2, none⟩ (iV D1)) = W2 at *
     have HN2 := Lib.hid (HN.out.below HB2.out)
     have hE0 : Hid ((departR (calAt n o) (linAt n (nxAt nx o d).toNat) (readyR (offAt n o) t)) = (D1, 0)) := by show _ = _; rw [HNX.out]; exact HD.out
     by_cases hk2 : k = 19
     ·have hR : Hid (wayR n nx d 19 o0 t0 = (170, [])) := by
       show _ = _
       rw [HW.out, show 19 - k = 0 by omega, wayR_last n nx d o t hod hno (by rw [hE0.out])]
       rfl
      subst hk2
      go_wp2
      refine ⟨rfl, ?_⟩
      unfold WalkR
      rw [hR.out]
      exact ⟨HB2.out, .inr ⟨by decide, rfl⟩⟩
     ·obtain ⟨f, hf⟩ : ∃ f, 19 - k = f + 1 := ⟨18 - k, by omega⟩
      have hR : Hid (wayR n nx d 19 o0 t0 = comb (done ++ [(⟨o, t, D1, nxAt nx o d⟩ : St)]) (wayR n nx d f (linAt n li).to.toNat (D1 + (linAt n li).travel))) := by
       show _ = _
       rw [HW.out, hf, wayR_next n nx d f o t hod hno (by rw [hE0.out]) done, hE0.out, HNX.out]
      have HFK : Hid (19 - (k + 1) = f) := by show _ = _; omega
      have k20 : ((k : Int) + 1 == 20) = false := by simp; omega
      have k20' : ¬ (k : Int) + 1 = 20 := by omega
      obtain ⟨hlt, lb, lo, hlA, hlb, hl0', hlc⟩ := elem_at encLin_len HN2.out.net.lins HARG.out.1 (by omega)
      have n4 : W2.cell? ⟨N, 4, none⟩ = some (.slice n.linA n.lins.length n.linC) := HN2.out.box 4 _ rfl
      rw [hlA] at n4
      have c0 : W2.cell? ⟨lb, lo + li * 6, none⟩ = some (sV (linAt n li).name) := hl0' _ rfl
      have c1 : W2.cell? ⟨lb, lo + li * 6 + 1, none⟩ = some (iV (linAt n li).frm) := hlc 1 _ rfl
      have c2' : W2.cell? ⟨lb, lo + li * 6 + 2, none⟩ = some (iV (linAt n li).to) := hlc 2 _ rfl
      have c3 : W2.cell? ⟨lb, lo + li * 6 + 3, none⟩ = some (iV (linAt n li).at_) := hlc 3 _ rfl
      have c4 : W2.cell? ⟨lb, lo + li * 6 + 4, none⟩ = some (iV (linAt n li).travel) := hlc 4 _ rfl
      have c5 : W2.cell? ⟨lb, lo + li * 6 + 5, none⟩ = some (iV (linAt n li).load) := hlc 5 _ rfl
      have z1 : (0 : Int) <= (li : Int) := by omega
      have z2 : (li : Int) < (n.lins.length : Int) := by omega
      clear hf hl0' hlc hlA hlb
      go_upto_region 14 with fail
      have HO3 : Hid ((W2.alloc (.cells #[sV (linAt n li).name, iV (linAt n li).frm, iV (linAt n li).to, iV (linAt n li).at_, iV (linAt n li).travel, iV (linAt n li).load] 52)).ownsRow w.heap.size 50 4 (.slice (some ⟨g, 0, none⟩) (k + 1) c2) (k + 1) ((done ++ [(⟨o, t, D1, nxAt nx o d⟩ : St)]).flatMap encSt)) := HO2.out.alloc _
      have HB3 : Hid (Below w.heap.size w (W2.alloc (.cells #[sV (linAt n li).name, iV (linAt n li).frm, iV (linAt n li).to, iV (linAt n li).at_, iV (linAt n li).travel, iV (linAt n li).load] 52))) := HB2.out.alloc HB2.out.size _
      have hLN : (W2.alloc (.cells #[sV (linAt n li).name, iV (linAt n li).frm, iV (linAt n li).to, iV (linAt n li).at_, iV (linAt n li).travel, iV (linAt n li).load] 52)).heap[W2.heap.size]? = some (.cells #[sV (linAt n li).name, iV (linAt n li).frm, iV (linAt n li).to, iV (linAt n li).at_, iV (linAt n li).travel, iV (linAt n li).load] 52) := heap_alloc_new _ _
      have b2 : (W2.alloc (.cells #[sV (linAt n li).name, iV (linAt n li).frm, iV (linAt n li).to, iV (linAt n li).at_, iV (linAt n li).travel, iV (linAt n li).load] 52)).cell? ⟨W2.heap.size, 2, none⟩ = some (iV (linAt n li).to) := cell_of_row _ _ 2 _ _ _ hLN
      have b4 : (W2.alloc (.cells #[sV (linAt n li).name, iV (linAt n li).frm, iV (linAt n li).to, iV (linAt n li).at_, iV (linAt n li).travel, iV (linAt n li).load] 52)).cell? ⟨W2.heap.size, 4, none⟩ = some (iV (linAt n li).travel) := cell_of_row _ _ 4 _ _ _ hLN
      have hX3 : w.heap.size <= (W2.alloc (.cells #[sV (linAt n li).name, iV (linAt n li).frm, iV (linAt n li).to, iV (linAt n li).at_, iV (linAt n li).travel, iV (linAt n li).load] 52)).heap.size := HB3.out.size
      change Code.wp _ _ _ _ (W2.alloc (.cells #[sV (linAt n li).name, iV (linAt n li).frm, iV (linAt n li).to, iV (linAt n li).at_, iV (linAt n li).travel, iV (linAt n li).load] 52))
      generalize (W2.alloc (.cells #[sV (linAt n li).name, iV (linAt n li).frm, iV (linAt n li).to, iV (linAt n li).at_, iV (linAt n li).travel, iV (linAt n li).load] 52)) = W3 at *
      generalize W2.heap.size = X at *
      obtain ⟨g', hg', -, -, -, hcell3⟩ := own_blk HO3.out (by omega)
      have hgg : g = g' := by injection hg' with h; injection h
      have g2' : W3.cell? ⟨g, k * 4 + 2, none⟩ = some (iV D1) := by
       rw [hgg]
       have h1 := flat_get encSt 4 encSt_len (done ++ [(⟨o, t, D1, nxAt nx o d⟩ : St)]) k 2 (by rw [HK.out]; simp) (by omega)
       refine hcell3 _ _ (h1.trans ?_)
       have : (done ++ [(⟨o, t, D1, nxAt nx o d⟩ : St)])[k]'(by rw [HK.out]; simp) = ⟨o, t, D1, nxAt nx o d⟩ := by simp [HK.out]
       rw [this]
       rfl
      have hDB : readyR (offAt n o) t <= D1 /\ D1 <= readyR (offAt n o) t + 90000 /\ 0 <= readyR (offAt n o) t /\ readyR (offAt n o) t <= 2000000 := by
       have h1 := HD.out
       unfold departR at h1
       by_cases hok : tOk (readyR (offAt n o) t) = true
       ·rw [if_pos hok] at h1
        have h2 := firstR_in HARG.out.2.2.2.2.2.1 HARG.out.2.2.2.2.2.2 h1
        unfold tOk at hok
        simp only [Bool.and_eq_true, decide_eq_true_eq] at hok
        omega
       ·rw [if_neg hok] at h1
        have := (Prod.mk.inj h1).2
        omega
      obtain ⟨hd1, hd2, hd3, hd4⟩ := hDB
      obtain ⟨tt, htt⟩ : ∃ m : Nat, (m : Int) = (linAt n li).to := ⟨(linAt n li).to.toNat, by omega⟩
      have htn : (linAt n li).to.toNat = tt := by omega
      have httl : tt < n.offs.length := by omega
      rw [htn] at hR
      rw [<- htt] at b2
      have HTT := Lib.hid htt
      generalize (linAt n li).travel = tv at *
      have e1 : 0 <= D1 + tv := by omega
      have e2 : D1 + tv <= 3000000 := by omega
      have r1 : IntKind.i64.wrap (D1 + tv) = D1 + tv := IntWalk.i64_in _ (by omega)
      clear hd1 hd2 hd3 hd4 htt htn hcell3 hg' hgg hLN n4 c0 c1 c2' c3 c4 c5 HO2 HB2 q1 q2
      go_region_law ((go_must (refine step_app (by rfl) _ _ _ _ (by rfl) w.heap.size 50 i0 _ 4 32 Tryz.underlying45 hi0 hz0 hz1 hz2 (by rfl) _ (k + 1) _ (by rfl) (HO3.out.drew.alloc _) _ (by rfl) 1 (encSt ⟨tt, D1 + tv, -1, -1⟩) (src_k 4 Tryz.underlying45 (Rd.new _ (encSt ⟨tt, D1 + tv, -1, -1⟩) _) rfl (by simp [encSt, Value.oneCell'])) (by unfold maxLen; omega) (by omega) (by simp; omega) ?_); intro A4 c4 w4 ho hgr _; have HO4 := Lib.hid ho; have HB4 := Lib.hid (app_below (b_drew HB3.out |>.alloc HB3.out.size _) (Nat.le_refl _) (HO3.out.drew.alloc _) (Nat.le_refl _) hgr); clear ho hgr))
      all_goals
       clear r1 g2' b2 b4
       go_wp2
       go_roundw
       case rel =>
        refine ⟨k + 1, tt, D1 + tv, done ++ [(⟨o, t, D1, nxAt nx o d⟩ : St)], by rw [List.length_append, <- HK.out]; rfl, by omega, httl, e1, e2, by go_num, ?_, HB4, ?_⟩
        ·show World.ownsRow _ _ _ _ _ _ _
         rw [List.flatMap_append (xs := done ++ _)]
         exact HO4.out
        ·show _ = _
         rw [hR.out, HFK.out]
       case measure => simp [intOf]; omega
    ·have hE0 : Hid ((departR (calAt n o) (linAt n (nxAt nx o d).toNat) (readyR (offAt n o) t)) = (D1, D2)) := by show _ = _; rw [HNX.out]; exact HD.out
     have hR : Hid (wayR n nx d 19 o0 t0 = (D2, [])) := by
      show _ = _
      rw [HW.out, wayR_bad n nx d _ o t hod hno (by rw [hE0.out]; exact hE), hE0.out]
      unfold comb
      rw [if_neg hE]
     refine wp_region_any (by kernel_rfl) ?_
     change wpAny _ _ _ _ _ _ _ (World.drew _)
     refine wpAny_take (i := 0) (v := ?_) rfl (by kernel_rfl) (by kernel_rfl) (by kernel_rfl) (fun _ _ _ h => h) (Or.inl ⟨by rfl, ?_⟩) ?_
     rotate_left
     ·(intro w; go_simp; (try with_reducible rfl))
     refine wpAny_take (i := 1) (v := ?_) rfl (by kernel_rfl) (by kernel_rfl) (by kernel_rfl) (fun _ _ _ h => h) (Or.inl ⟨by rfl, ?_⟩) ?_
     rotate_left
     ·(intro w; go_simp; (try with_reducible rfl))
     refine wpAny_take (i := 2) (v := ?_) rfl (by kernel_rfl) (by kernel_rfl) (by kernel_rfl) (fun _ _ _ h => h) (Or.inl ⟨by rfl, ?_⟩) ?_
     rotate_left
     ·(intro w; go_simp; (try with_reducible rfl))
     refine wpAny_take (i := 3) (v := ?_) rfl (by kernel_rfl) (by kernel_rfl) (by kernel_rfl) (fun _ _ _ h => h) (Or.inl ⟨by rfl, ?_⟩) ?_
     rotate_left
     ·(intro w; go_simp; (try with_reducible rfl))
     refine wpAny_take (i := 4) (v := ?_) rfl (by kernel_rfl) (by kernel_rfl) (by kernel_rfl) (fun _ _ _ h => h) (Or.inl ⟨by rfl, ?_⟩) ?_
     rotate_left
     ·(intro w; go_simp; (try with_reducible rfl))
     refine wpAny_take (i := 5) (v := ?_) rfl (by kernel_rfl) (by kernel_rfl) (by kernel_rfl) (fun _ _ _ h => h) (Or.inl ⟨by rfl, ?_⟩) ?_
     rotate_left
     ·(intro w; go_simp; (try with_reducible rfl))
     refine wpAny_take (i := 6) (v := ?_) rfl (by kernel_rfl) (by kernel_rfl) (by kernel_rfl) (fun _ _ _ h => h) (Or.inl ⟨by rfl, ?_⟩) ?_
     rotate_left
     ·(intro w; go_simp; (try with_reducible rfl))
     refine wpAny_take (i := 8) (v := ?_) rfl (by kernel_rfl) (by kernel_rfl) (by kernel_rfl) (fun _ _ _ h => h) (Or.inl ⟨by rfl, ?_⟩) ?_
     rotate_left
     ·(intro w; go_simp; (try with_reducible rfl))
     refine wpAny_take (i := 9) (v := ?_) rfl (by kernel_rfl) (by kernel_rfl) (by kernel_rfl) (fun _ _ _ h => h) (Or.inl ⟨by rfl, ?_⟩) ?_
     rotate_left
     ·(intro w; go_simp; (try with_reducible rfl))
     refine wpAny_take (i := 10) (v := ?_) rfl (by kernel_rfl) (by kernel_rfl) (by kernel_rfl) (fun _ _ _ h => h) (Or.inl ⟨by rfl, ?_⟩) ?_
     rotate_left
     ·(intro w; go_simp; (try with_reducible rfl))
     refine wpAny_ready (rs := [7, 11]) (by kernel_rfl) (by simp) ?_
     refine AllReady.cons rfl (fun K hK => ?ra) (AllReady.cons rfl (fun K hK => ?rb) AllReady.nil)
     case ra =>
      go_simp
      refine hK _ _ ?_
      clear hK K
      refine wpAny_ready (rs := [11]) (by kernel_rfl) (by simp) ?_
      refine AllReady.cons rfl (fun K hK => ?_) AllReady.nil
      go_simp
      refine hK _ _ ?_
      clear hK K
      refine wpAny_ready (rs := [12]) (by kernel_rfl) (by simp) ?_
      refine AllReady.cons rfl (fun K hK => ?_) AllReady.nil
      go_simp
      refine (ready_any N n o (offAt n o) t _ (HN1.out.drewN 1) (offAt_get hoo) HPM.out.1.1 HPM.out.1.2 HPM.out.2.1 HPM.out.2.2 (by omega) (by omega)).mono ?_
      rintro e w2 ⟨rfl, hb⟩
      have HC1 := Lib.hid (bdr hb); clear hb
      go_wp2_with fail
      refine wpAny_ready (rs := [13]) (by kernel_rfl) (by simp) ?_
      refine AllReady.cons rfl (fun K hK => ?_) AllReady.nil
      go_simp
      refine (depart_any N n li o ci _ _ _ (readyR (offAt n o) t) _ (HN1.out.below HC1.out) HARG.out.1 HARG.out.2.1 (offAt_get hoo) HARG.out.2.2.1 HARG.out.2.2.2.1 HARG.out.2.2.2.2.1 HARG.out.2.2.2.2.2.1 HARG.out.2.2.2.2.2.2).mono ?_
      rintro e w3 ⟨rfl, hb⟩
      rw [HD.out]
      have HC2 := Lib.hid (bt HC1.out hb); clear hb
      go_wp2_with fail
      refine wpAny_take (i := 14) (v := ?_) rfl (by kernel_rfl) (by kernel_rfl) (by kernel_rfl) (fun _ _ _ h => h) (Or.inl ⟨by rfl, ?_⟩) ?_
      rotate_left
      ·(intro w; go_simp; (try with_reducible rfl))
      refine wpAny_take (i := 15) (v := ?_) rfl (by kernel_rfl) (by kernel_rfl) (by kernel_rfl) (fun _ _ _ h => h) (Or.inl ⟨by rfl, ?_⟩) ?_
      rotate_left
      ·(intro w; go_simp; (try with_reducible rfl))
      refine wpAny_ready (rs := [16]) (by kernel_rfl) (by simp) ?_
      refine AllReady.cons rfl (fun K hK => ?_) AllReady.nil
      go_simp
      refine (must_no D1 D2 _ hE).mono ?_
      rintro e w4 ⟨rfl, rfl⟩
      go_simp
      refine ⟨rfl, ?_⟩
      unfold WalkR
      rw [hR.out]
      exact ⟨bt HB1.out HC2.out, .inr ⟨hE, rfl⟩⟩
     case rb =>
      go_simp
      refine hK _ _ ?_
      clear hK K
      refine wpAny_ready (rs := [7]) (by kernel_rfl) (by simp) ?_
      refine AllReady.cons rfl (fun K hK => ?_) AllReady.nil
      go_simp
      refine hK _ _ ?_
      clear hK K
      refine wpAny_ready (rs := [12]) (by kernel_rfl) (by simp) ?_
      refine AllReady.cons rfl (fun K hK => ?_) AllReady.nil
      go_simp
      refine (ready_any N n o (offAt n o) t _ (HN1.out.drewN 1) (offAt_get hoo) HPM.out.1.1 HPM.out.1.2 HPM.out.2.1 HPM.out.2.2 (by omega) (by omega)).mono ?_
      rintro e w2 ⟨rfl, hb⟩
      have HC1 := Lib.hid (bdr hb); clear hb
      go_wp2_with fail
      refine wpAny_ready (rs := [13]) (by kernel_rfl) (by simp) ?_
      refine AllReady.cons rfl (fun K hK => ?_) AllReady.nil
      go_simp
      refine (depart_any N n li o ci _ _ _ (readyR (offAt n o) t) _ (HN1.out.below HC1.out) HARG.out.1 HARG.out.2.1 (offAt_get hoo) HARG.out.2.2.1 HARG.out.2.2.2.1 HARG.out.2.2.2.2.1 HARG.out.2.2.2.2.2.1 HARG.out.2.2.2.2.2.2).mono ?_
      rintro e w3 ⟨rfl, hb⟩
      rw [HD.out]
      have HC2 := Lib.hid (bt HC1.out hb); clear hb
      go_wp2_with fail
      refine wpAny_take (i := 14) (v := ?_) rfl (by kernel_rfl) (by kernel_rfl) (by kernel_rfl) (fun _ _ _ h => h) (Or.inl ⟨by rfl, ?_⟩) ?_
      rotate_left
      ·(intro w; go_simp; (try with_reducible rfl))
      refine wpAny_take (i := 15) (v := ?_) rfl (by kernel_rfl) (by kernel_rfl) (by kernel_rfl) (fun _ _ _ h => h) (Or.inl ⟨by rfl, ?_⟩) ?_
      rotate_left
      ·(intro w; go_simp; (try with_reducible rfl))
      refine wpAny_ready (rs := [16]) (by kernel_rfl) (by simp) ?_
      refine AllReady.cons rfl (fun K hK => ?_) AllReady.nil
      go_simp
      refine (must_no D1 D2 _ hE).mono ?_
      rintro e w4 ⟨rfl, rfl⟩
      go_simp
      refine ⟨rfl, ?_⟩
      unfold WalkR
      rw [hR.out]
      exact ⟨bt HB1.out HC2.out, .inr ⟨hE, rfl⟩⟩
theorem way_pan (q r : Nat) (s y : Value) (x : Int) (older : List PanicEntry) (w : World) (hq : w.cell? ⟨q, 0, none⟩ = some s) (hqf : w.frozen? ⟨q, 0, none⟩ = false)
  (hr : w.cell? ⟨r, 0, none⟩ = some y) (hrf : w.frozen? ⟨r, 0, none⟩ = false) (hqr : r ≠ q) :
  CallsD Tryz.prog 52 #[.pointer (some ⟨q, 0, none⟩), .pointer (some ⟨r, 0, none⟩)] (.panicking ({ v := .iface 38 (iV x), recovered := false } :: older)) w fun e u' w' =>
   e = .returned (.tuple #[]) /\ u' = .panicking ({ v := .iface 38 (iV x), recovered := true } :: older) /\ w' = (w.setCell ⟨q, 0, none⟩ (.slice none 0 0)).setCell ⟨r, 0, none⟩ (iV x) := by
 have hc : (w.setCell ⟨q, 0, none⟩ (.slice none 0 0)).cell? ⟨r, 0, none⟩ = some y := by
  have hh := Below.heap_setCell w ⟨q, 0, none⟩ (.slice none 0 0) r hqr
  simpa [World.cell?, hh] using hr
 have hf : (w.setCell ⟨q, 0, none⟩ (.slice none 0 0)).frozen? ⟨r, 0, none⟩ = false := by rw [World.frozen?_setCell]; exact hrf
 refine callsD_of_wpS Tryz.func52 rfl fun c₀ cs hu => ?_
 apply wpS_seq
 apply wpS_region
 simp [wpOpsS, go_sem, recoverD, hu, Tryz.ntmps52, Exit.thenS]
 refine wpS_of_wp ?_
 go_wp2_with fail
 refine (code_any x _).mono ?_
 rintro e w1 ⟨rfl, rfl⟩
 go_wp2_with fail
 simp [bodyPostS, results, Tryz.results52]
theorem way_idle (q r : Nat) (w : World) :
  CallsD Tryz.prog 52 #[.pointer (some ⟨q, 0, none⟩), .pointer (some ⟨r, 0, none⟩)] .returning w fun e u' w' => e = .returned (.tuple #[]) /\ u' = .returning /\ w' = w := by
 refine callsD_of_wpS Tryz.func52 rfl fun c₀ cs hu => ?_
 apply wpS_seq
 apply wpS_region
 simp [wpOpsS, go_sem, recoverD, hu, Tryz.ntmps52, Exit.thenS]
 refine wpS_of_wp ?_
 go_wp2_with fail
 cases c₀
 simp_all [bodyPostS, results, Tryz.results52]
theorem formed_any (N : Nat) (n : Net) (A : Option Addr) (c : Nat) (nx : List NsC) (w : World) (hN : NetP w N n) (hT : Tab w A nx) (hx : nx.length <= maxLen) (_hf1 : n.offs.length <= maxLen) (_hf2 : n.lins.length <= maxLen) :
  Calls Tryz.prog 58 #[.pointer (some ⟨N, 0, none⟩), .slice A nx.length c] w fun e w' => e = .returned (.bool (formB n nx)) /\ Below w.heap.size w w' := by
 have n3 : w.cell? ⟨N, 3, none⟩ = some (.slice n.offA n.offs.length n.offC) := hN.box 3 _ rfl
 have n4 : w.cell? ⟨N, 4, none⟩ = some (.slice n.linA n.lins.length n.linC) := hN.box 4 _ rfl
 have HN := Lib.hid hN; clear hN
 have HT := Lib.hid hT; clear hT
 unfold maxLen at hx _hf1 _hf2
 by_cases hlen : nx.length = n.offs.length
 ·have i1 : ((nx.length : Int) != (n.offs.length : Int)) = false := by simp; omega
  have i1' : ((nx.length : Int) == (n.offs.length : Int)) = true := by simp; omega
  have HLEN := Lib.hid hlen; clear hlen
  go_enter Tryz.func58, Tryz.ntmps58
  go_wp2
  go_loopw [19] (fun i wr => ∃ k q : Nat, k <= nx.length /\ i = iV k /\ wr = w.drewN q /\ Hid (∀ o r, o < k -> nx[o]? = some r -> r.ns.length = n.offs.length /\ ∀ l ∈ r.ns, EntryOk n o l)) (fun i _ => nx.length + 1 - (intOf i).toNat)
  case atStart => exact ⟨0, 0, by omega, rfl, rfl, fun o r h => by omega⟩
  case round =>
   obtain ⟨k, q, hk, rfl, rfl, HS⟩ := hrel
   have j0 : (0 : Int) <= (k : Int) := by omega
   by_cases hlt : k < nx.length
   ·have j1 : (k : Int) < (nx.length : Int) := by omega
    have hr : nx[k]? = some nx[k] := List.getElem?_eq_getElem _
    generalize nx[k] = r at hr
    obtain ⟨ns, rA, rc⟩ := r
    have HTr : Hid (Rd w rA (ns.map iV) /\ (∀ n ∈ ns, I64 n) /\ ns.length <= maxLen) := HT.out.row _ (List.mem_of_getElem? hr)
    obtain ⟨nb, no, hnA, -, hnc⟩ := HT.out.rd.get (i := k) (by rw [List.length_map]; exact hlt)
    have x1 : w.cell? ⟨nb, no + k, none⟩ = some (.slice rA ns.length rc) := hnc k _ (by rw [List.getElem?_map, hr]; rfl)
    have HNA := Lib.hid hnA
    have HRr := Lib.hid hr; clear hr hnc
    subst hnA
    have hrm := HTr.out.2.2
    unfold maxLen at hrm
    by_cases hrl : ns.length = n.offs.length
    ·have i2 : ((ns.length : Int) != (n.offs.length : Int)) = false := by simp; omega
     have i2' : ((ns.length : Int) == (n.offs.length : Int)) = true := by simp; omega
     have HRL := Lib.hid hrl; clear hrl
     go_wp2
     go_loopw [34] (fun i wr => ∃ m p : Nat, m <= ns.length /\ i = iV m /\ wr = w.drewN p /\ Hid (∀ j l, j < m -> ns[j]? = some l -> EntryOk n k l)) (fun i _ => ns.length + 1 - (intOf i).toNat)
     case atStart => exact ⟨0, _, by omega, rfl, rfl, fun o r h => by omega⟩
     case round =>
      obtain ⟨m, p, hm, rfl, rfl, HQ⟩ := hrel
      have m0 : (0 : Int) <= (m : Int) := by omega
      by_cases hmt : m < ns.length
      ·have m1 : (m : Int) < (ns.length : Int) := by omega
       have hl : ns[m]? = some ns[m] := List.getElem?_eq_getElem _
       obtain ⟨rb, ro, hrA, -, hrc⟩ := HTr.out.1.get (i := m) (by rw [List.length_map]; exact hmt)
       have x2 : w.cell? ⟨rb, ro + m, none⟩ = some (iV ns[m]) := hrc m _ (by simp [hmt])
       generalize ns[m] = l at hl x2
       have HL := Lib.hid hl; clear hl hrc
       have HRA := Lib.hid hrA
       subst hrA
       have HNO : Hid (¬ EntryOk n k l -> formB n nx = false) := fun hno => formB_false (fun h => hno ((((formed_iff n nx).1 h).2 k _ HRr.out).2 l (List.mem_of_getElem? HL.out)))
       have HYES : Hid (EntryOk n k l -> ∀ j l, j < m + 1 -> ns[j]? = some l -> EntryOk n k l) := fun hy j l' hj hl' => by
        rcases Nat.lt_or_ge j m with h | h
        ·exact HQ.out j l' h hl'
        ·obtain rfl : j = m := by omega
         rw [HL.out] at hl'
         cases hl'
         exact hy
       by_cases hm1 : l = -1
       ·subst hm1
        go_wp2
        go_roundw
        case rel => exact ⟨m + 1, _, by omega, by go_num, rfl, HYES.out (.inl rfl)⟩
        case measure => simp [intOf]; omega
       ·have hm2 : (l != -1) = true := by simpa using hm1
        have hm3 : (l == -1) = false := by simpa using hm1
        have HM1 := Lib.hid hm1; clear hm1
        by_cases hin : 0 <= l /\ l < (n.lins.length : Int)
        ·obtain ⟨hp, hq⟩ := hin
         obtain ⟨li, rfl⟩ := Int.eq_ofNat_of_zero_le hp
         have hq' : li < n.lins.length := by omega
         obtain ⟨-, lb, lo, hlA, -, -, hlc⟩ := elem_at encLin_len HN.out.net.lins (linAt_get hq') (by omega)
         have y1 : w.cell? ⟨lb, lo + li * 6 + 1, none⟩ = some (iV (linAt n li).frm) := hlc 1 _ rfl
         clear hlc hq'
         rw [hlA] at n4
         have HB : Hid ((decide (0 <= (li : Int)) && decide ((li : Int) < (n.lins.length : Int))) = true) := by show _ = _; simp [hq]
         by_cases hfr : (linAt n li).frm = (k : Int)
         ·have f1 : ((linAt n li).frm != (k : Int)) = false := by simpa using hfr
          have f2 : ((linAt n li).frm == (k : Int)) = true := by simpa using hfr
          have HF := Lib.hid hfr; clear hfr
          go_wp2_with fail
          refine (inside_any _ _ _).mono ?_
          rintro e w2 ⟨rfl, rfl⟩
          rw [HB.out]
          go_wp2
          go_roundw
          case rel => exact ⟨m + 1, _, by omega, by go_num, rfl, HYES.out (.inr ⟨by omega, by omega, HF.out⟩)⟩
          case measure => simp [intOf]; omega
         ·have f1 : ((linAt n li).frm != (k : Int)) = true := by simpa using hfr
          have f2 : ((linAt n li).frm == (k : Int)) = false := by simpa using hfr
          have HR : Hid (formB n nx = false) := HNO.out (fun h => by
           rcases h with h | ⟨-, -, h⟩
           ·exact HM1.out h
           ·exact hfr h)
          clear hfr
          go_wp2_with fail
          refine (inside_any _ _ _).mono ?_
          rintro e w2 ⟨rfl, rfl⟩
          rw [HB.out]
          go_wp2
          go_ret
          exact ⟨ret_bool HR.out.symm, below_drewN (Below.refl _ _) _⟩
        ·have HB : Hid ((decide (0 <= l) && decide (l < (n.lins.length : Int))) = false) := by
          show _ = _
          rw [Bool.eq_false_iff]
          intro h
          simp at h
          exact hin ⟨h.1, h.2⟩
         have HR : Hid (formB n nx = false) := HNO.out (fun h => by
          rcases h with h | ⟨h1, h2, -⟩
          ·exact HM1.out h
          ·exact hin ⟨h1, h2⟩)
         clear hin
         go_wp2_with fail
         refine (inside_any _ _ _).mono ?_
         rintro e w2 ⟨rfl, rfl⟩
         rw [HB.out]
         go_wp2
         go_ret
         exact ⟨ret_bool HR.out.symm, below_drewN (Below.refl _ _) _⟩
      ·have m1 : ¬ (m : Int) < (ns.length : Int) := by omega
       have HK1 : Hid (∀ o r, o < k + 1 -> nx[o]? = some r -> r.ns.length = n.offs.length /\ ∀ l ∈ r.ns, EntryOk n o l) := fun o r' ho hr' => by
        rcases Nat.lt_or_ge o k with h | h
        ·exact HS.out o r' h hr'
        ·obtain rfl : o = k := by omega
         rw [HRr.out] at hr'
         cases hr'
         refine ⟨HRL.out, fun l hl => ?_⟩
         obtain ⟨j, hj, hjl⟩ := List.mem_iff_getElem.1 hl
         have hj2 : j < ns.length := hj
         exact HQ.out j l (by omega) (by rw [List.getElem?_eq_getElem hj, hjl])
       go_wp2
       go_roundw
       case rel => exact ⟨k + 1, _, by omega, by go_num, rfl, HK1.out⟩
       case measure => simp [intOf]; omega
    ·have i2 : ((ns.length : Int) != (n.offs.length : Int)) = true := by simp; omega
     have i2' : ((ns.length : Int) == (n.offs.length : Int)) = false := by simp; omega
     have HR : Hid (formB n nx = false) := formB_false (fun h => hrl (((formed_iff n nx).1 h).2 k _ HRr.out).1)
     clear hrl
     go_wp2
     go_ret
     exact ⟨ret_bool HR.out.symm, below_drewN (Below.refl _ _) _⟩
   ·have j1 : ¬ (k : Int) < (nx.length : Int) := by omega
    have HR : Hid (formB n nx = true) := formB_true.2 ((formed_iff n nx).2 ⟨HLEN.out, fun o r hr => HS.out o r (by have := (List.getElem?_eq_some_iff.1 hr).1; omega) hr⟩)
    go_wp2
    go_ret
    exact ⟨ret_bool HR.out.symm, below_drewN (Below.refl _ _) _⟩
 ·have i1 : ((nx.length : Int) != (n.offs.length : Int)) = true := by simp; omega
  have i1' : ((nx.length : Int) == (n.offs.length : Int)) = false := by simp; omega
  have HR : Hid (formB n nx = false) := formB_false (fun h => hlen h.1)
  clear hlen
  go_enter Tryz.func58, Tryz.ntmps58
  go_wp2
  go_ret
  exact ⟨ret_bool HR.out.symm, Below.refl _ _⟩
def Wd2 (w W : World) (s y : Value) : Prop :=
 Below w.heap.size w W /\ W.heap[w.heap.size + 1]? = some (.cells #[s] 45 (0, 0)) /\ W.heap[w.heap.size + 1 + 1]? = some (.cells #[y] 38 (0, 0))
theorem Wd2.new (w : World) (n : Net) : Wd2 w (((w.alloc (netO n)).alloc (.cells #[.slice none 0 0] 45)).alloc (.cells #[iV 0] 38)) (.slice none 0 0) (iV 0) := by
 refine ⟨(((Below.refl _ w).alloc (Nat.le_refl _) _).alloc (by simp) _).alloc (by simp; omega) _, ?_, ?_⟩
 ·refine (Below.heap_alloc _ _ _ (by simp)).trans ?_
  have := heap_alloc_new (w.alloc (netO n)) (.cells #[.slice none 0 0] 45)
  rwa [World.size_alloc] at this
 ·have := heap_alloc_new ((w.alloc (netO n)).alloc (.cells #[.slice none 0 0] 45)) (.cells #[iV 0] 38)
  rwa [World.size_alloc, World.size_alloc] at this
theorem Wd2.below {w W W' : World} {s y : Value} (h : Wd2 w W s y) (hb : Below W.heap.size W W') : Wd2 w W' s y :=
 ⟨bt h.1 hb, (hb.block _ (block_lt h.2.1)).trans h.2.1, (hb.block _ (block_lt h.2.2)).trans h.2.2⟩
theorem Wd2.set1 {w W : World} {s y : Value} (h : Wd2 w W s y) (z : Value) : Wd2 w (W.setCell ⟨w.heap.size + 1, 0, none⟩ z) z y :=
 ⟨h.1.setCell (by simp) _, row_set h.2.1 0 z, row_other h.2.2 (by omega) _ _⟩
theorem Wd2.set2 {w W : World} {s y : Value} (h : Wd2 w W s y) (z : Value) : Wd2 w (W.setCell ⟨w.heap.size + 1 + 1, 0, none⟩ z) s z :=
 ⟨h.1.setCell (by simp; omega) _, row_other h.2.1 (by omega) _ _, row_set h.2.2 0 z⟩
theorem Wd2.res {w W : World} {s y : Value} (h : Wd2 w W s y) (tmps : Array Value) (h2 : tmps.getD 10 undef = .pointer (some ⟨w.heap.size + 1, 0, none⟩)) (h3 : tmps.getD 11 undef = .pointer (some ⟨w.heap.size + 1 + 1, 0, none⟩)) :
  (results Tryz.f23 tmps).run Tryz.prog W = .ok (.tuple #[s, y]) W := by
 have e1 : (loadVar 45 ⟨w.heap.size + 1, 0, none⟩).run Tryz.prog W = .ok s W := by
  have := cell_of_row W _ 0 _ _ _ h.2.1
  simp [loadVar, go_sem, this]
 have e2 : (loadVar 38 ⟨w.heap.size + 1 + 1, 0, none⟩).run Tryz.prog W = .ok y W := by
  have := cell_of_row W _ 0 _ _ _ h.2.2
  simp [loadVar, go_sem, this]
 have h2' : tmps[10]?.getD undef = .pointer (some ⟨w.heap.size + 1, 0, none⟩) := by simpa using h2
 have h3' : tmps[11]?.getD undef = .pointer (some ⟨w.heap.size + 1 + 1, 0, none⟩) := by simpa using h3
 simp [results, Tryz.results23, asAddr, h2', h3', e1, e2]
def WayRes (w : World) (r : Int × List St) (e : Ending) (w' : World) : Prop :=
 Below w.heap.size w w' /\ ∃ A c, e = .returned (.tuple #[.slice A r.2.length c, iV r.1]) /\ Rd w' A (r.2.flatMap encSt)
theorem WayRes.bad {w W : World} (x : Int) {s y : Value} (h : Wd2 w W s y) : WayRes w (x, []) (.returned (.tuple #[.slice none 0 0, iV x])) W := ⟨h.1, none, 0, rfl, Rd.nil _ _⟩
open Classical in
noncomputable def wayTop (n : Net) (nx : List NsC) (o d t : Int) : Int × List St :=
 if inB o n.offs.length = true /\ inB d n.offs.length = true /\ tOk t = true /\ Sound n /\ Formed n nx then wayR n nx d.toNat 19 o.toNat t else (1, [])
theorem way_any (n : Net) (A : Option Addr) (c : Nat) (nx : List NsC) (o d t : Int) (w : World) (hn : NetIn w n) (hT : Tab w A nx) (hx : nx.length <= maxLen) (hk : KW w) :
  Calls Tryz.prog 23 #[netV n, .slice A nx.length c, iV o, iV d, iV t] w (WayRes w (wayTop n nx o d t)) := by
 have hmf : ∀ (fn : Fn) (first cap : Array Value) (w : World), (Instr.makeFunc fn first cap).run Tryz.prog w = .ok (.func fn first cap) w := fun _ _ _ _ => rfl
 have HD := Lib.hid (Wd2.new w n)
 have hx0 : (((w.alloc (netO n)).alloc (.cells #[.slice none 0 0] 45)).alloc (.cells #[iV 0] 38)).heap[w.heap.size]? = some (netO n) := (Below.heap_alloc _ _ _ (by simp; omega)).trans ((Below.heap_alloc _ _ _ (by simp)).trans (heap_alloc_new _ _))
 have HNP : Hid (NetP (((w.alloc (netO n)).alloc (.cells #[.slice none 0 0] 45)).alloc (.cells #[iV 0] 38)) w.heap.size n) := ⟨fun i v hv => (cell_of_row _ _ _ _ _ _ hx0).trans hv, hn.below HD.out.1⟩
 have HT := Lib.hid (hT.below HD.out.1)
 have HK := Lib.hid (hk.below HD.out.1)
 have hl := hn.lens.2.2.2.1
 have HLL := Lib.hid hn.lens
 have HX := Lib.hid hx
 unfold maxLen at hl
 have n3 : (((w.alloc (netO n)).alloc (.cells #[.slice none 0 0] 45)).alloc (.cells #[iV 0] 38)).cell? ⟨w.heap.size, 3, none⟩ = some (.slice n.offA n.offs.length n.offC) := HNP.out.box 3 _ rfl
 have hbad : ¬ (inB o n.offs.length = true /\ inB d n.offs.length = true /\ tOk t = true /\ Sound n /\ Formed n nx) -> wayTop n nx o d t = (1, []) := fun h => if_neg h
 have HBAD := Lib.hid hbad; clear hbad
 clear hn hT hk hx0 hx
 cases h1 : inB o n.offs.length
 case false =>
  have H1 := Lib.hid h1; clear h1
  go_enter_defers Tryz.func23, Tryz.ntmps23
  go_wp2_with fail
  refine (inside_b _ _ _).mono ?_
  rintro e w' ⟨rfl, rfl⟩
  rw [H1.out]
  go_wp2_with fail
  refine (demand_no _).mono ?_
  rintro e w' ⟨rfl, rfl⟩
  refine leaves_cons (f := 52) (args := #[.pointer (some ⟨w.heap.size + 1, 0, none⟩), .pointer (some ⟨w.heap.size + 1 + 1, 0, none⟩)]) (by simp) (by simp [go_sem]) ?_
  refine (way_pan (w.heap.size + 1) (w.heap.size + 1 + 1) _ _ 1 _ _ (cell_of_row _ _ 0 _ _ _ HD.out.2.1) (frozen_row HD.out.2.1 0) (cell_of_row _ _ 0 _ _ _ HD.out.2.2) (frozen_row HD.out.2.2 0) (by omega)).mono ?_
  rintro e u' w'' ⟨rfl, rfl, rfl⟩
  exact ⟨_, ((HD.out.set1 (.slice none 0 0)).set2 (iV 1)).res _ rfl rfl, by rw [HBAD.out (by intro h; rw [H1.out] at h; cases h.1)]; exact WayRes.bad 1 ((HD.out.set1 (.slice none 0 0)).set2 (iV 1))⟩
 case true =>
 have H1 := Lib.hid h1; clear h1
 cases h2 : inB d n.offs.length
 case false =>
  have H2 := Lib.hid h2; clear h2
  go_enter_defers Tryz.func23, Tryz.ntmps23
  go_wp2_with fail
  refine (inside_b _ _ _).mono ?_
  rintro e w' ⟨rfl, rfl⟩
  rw [H1.out]
  go_wp2_with fail
  refine (inside_b _ _ _).mono ?_
  rintro e w' ⟨rfl, rfl⟩
  rw [H2.out]
  go_wp2_with fail
  refine (demand_no _).mono ?_
  rintro e w' ⟨rfl, rfl⟩
  refine leaves_cons (f := 52) (args := #[.pointer (some ⟨w.heap.size + 1, 0, none⟩), .pointer (some ⟨w.heap.size + 1 + 1, 0, none⟩)]) (by simp) (by simp [go_sem]) ?_
  refine (way_pan (w.heap.size + 1) (w.heap.size + 1 + 1) _ _ 1 _ _ (cell_of_row _ _ 0 _ _ _ HD.out.2.1) (frozen_row HD.out.2.1 0) (cell_of_row _ _ 0 _ _ _ HD.out.2.2) (frozen_row HD.out.2.2 0) (by omega)).mono ?_
  rintro e u' w'' ⟨rfl, rfl, rfl⟩
  exact ⟨_, ((HD.out.set1 (.slice none 0 0)).set2 (iV 1)).res _ rfl rfl, by rw [HBAD.out (by intro h; rw [H2.out] at h; cases h.2.1)]; exact WayRes.bad 1 ((HD.out.set1 (.slice none 0 0)).set2 (iV 1))⟩
 case true =>
 have H2 := Lib.hid h2; clear h2
 go_enter_defers Tryz.func23, Tryz.ntmps23
 go_wp2_with fail
 refine (inside_b _ _ _).mono ?_
 rintro e w' ⟨rfl, rfl⟩
 rw [H1.out]
 go_wp2_with fail
 refine (inside_b _ _ _).mono ?_
 rintro e w' ⟨rfl, rfl⟩
 rw [H2.out]
 go_wp2_with fail
 refine (intime_any _ _).mono ?_
 rintro e w' ⟨rfl, rfl⟩
 cases h3 : tOk t
 case false =>
  have H3 := Lib.hid h3; clear h3
  go_wp2_with fail
  refine (demand_no _).mono ?_
  rintro e w' ⟨rfl, rfl⟩
  refine leaves_cons (f := 52) (args := #[.pointer (some ⟨w.heap.size + 1, 0, none⟩), .pointer (some ⟨w.heap.size + 1 + 1, 0, none⟩)]) (by simp) (by simp [go_sem]) ?_
  refine (way_pan (w.heap.size + 1) (w.heap.size + 1 + 1) _ _ 1 _ _ (cell_of_row _ _ 0 _ _ _ HD.out.2.1) (frozen_row HD.out.2.1 0) (cell_of_row _ _ 0 _ _ _ HD.out.2.2) (frozen_row HD.out.2.2 0) (by omega)).mono ?_
  rintro e u' w'' ⟨rfl, rfl, rfl⟩
  exact ⟨_, ((HD.out.set1 (.slice none 0 0)).set2 (iV 1)).res _ rfl rfl, by rw [HBAD.out (by intro h; rw [H3.out] at h; cases h.2.2.1)]; exact WayRes.bad 1 ((HD.out.set1 (.slice none 0 0)).set2 (iV 1))⟩
 case true =>
 have H3 := Lib.hid h3; clear h3
 go_wp2_with fail
 refine (demand_yes _).mono ?_
 rintro e w' ⟨rfl, rfl⟩
 by_cases h4 : Sound n
 case neg =>
  have H4 := Lib.hid h4; clear h4
  go_wp2_with fail
  refine (sound_no _ n _ HNP.out HK.out H4.out).mono ?_
  rintro e w1 ⟨rfl, hb⟩
  have HD1 := Lib.hid (HD.out.below hb); clear hb
  go_wp2_with fail
  refine (demand_no _).mono ?_
  rintro e w' ⟨rfl, rfl⟩
  refine leaves_cons (f := 52) (args := #[.pointer (some ⟨w.heap.size + 1, 0, none⟩), .pointer (some ⟨w.heap.size + 1 + 1, 0, none⟩)]) (by simp) (by simp [go_sem]) ?_
  refine (way_pan (w.heap.size + 1) (w.heap.size + 1 + 1) _ _ 1 _ _ (cell_of_row _ _ 0 _ _ _ HD1.out.2.1) (frozen_row HD1.out.2.1 0) (cell_of_row _ _ 0 _ _ _ HD1.out.2.2) (frozen_row HD1.out.2.2 0) (by omega)).mono ?_
  rintro e u' w'' ⟨rfl, rfl, rfl⟩
  exact ⟨_, ((HD1.out.set1 (.slice none 0 0)).set2 (iV 1)).res _ rfl rfl, by rw [HBAD.out (by intro h; exact H4.out h.2.2.2.1)]; exact WayRes.bad 1 ((HD1.out.set1 (.slice none 0 0)).set2 (iV 1))⟩
 case pos =>
 have H4 := Lib.hid h4; clear h4
 go_wp2_with fail
 refine (sound_yes _ n _ HNP.out HK.out H4.out).mono ?_
 rintro e w1 ⟨rfl, hb⟩
 have HD1 := Lib.hid (HD.out.below hb)
 have HNP1 := Lib.hid (HNP.out.below hb)
 have HT1 := Lib.hid (HT.out.below hb)
 clear hb HD HNP HT n3
 go_wp2_with fail
 refine (formed_any _ n A c nx _ HNP1.out HT1.out HX.out HLL.out.2.2.2.1 HLL.out.2.2.2.2.1).mono ?_
 rintro e w2 ⟨rfl, hb⟩
 have HD2 := Lib.hid (HD1.out.below hb)
 have HNP2 := Lib.hid (HNP1.out.below hb)
 have HT2 := Lib.hid (HT1.out.below hb)
 clear hb HD1 HNP1 HT1
 cases h5 : formB n nx
 case false =>
  have H5 := Lib.hid h5; clear h5
  go_wp2_with fail
  refine (demand_no _).mono ?_
  rintro e w' ⟨rfl, rfl⟩
  refine leaves_cons (f := 52) (args := #[.pointer (some ⟨w.heap.size + 1, 0, none⟩), .pointer (some ⟨w.heap.size + 1 + 1, 0, none⟩)]) (by simp) (by simp [go_sem]) ?_
  refine (way_pan (w.heap.size + 1) (w.heap.size + 1 + 1) _ _ 1 _ _ (cell_of_row _ _ 0 _ _ _ HD2.out.2.1) (frozen_row HD2.out.2.1 0) (cell_of_row _ _ 0 _ _ _ HD2.out.2.2) (frozen_row HD2.out.2.2 0) (by omega)).mono ?_
  rintro e u' w'' ⟨rfl, rfl, rfl⟩
  exact ⟨_, ((HD2.out.set1 (.slice none 0 0)).set2 (iV 1)).res _ rfl rfl, by rw [HBAD.out (by intro h; rw [formB_true.2 h.2.2.2.2] at H5; cases H5.out)]; exact WayRes.bad 1 ((HD2.out.set1 (.slice none 0 0)).set2 (iV 1))⟩
 case true =>
 have H5 := Lib.hid (formB_true.1 h5); clear h5
 have HR : Hid (wayTop n nx o d t = wayR n nx d.toNat 19 o.toNat t) := if_pos ⟨H1.out, H2.out, H3.out, H4.out, H5.out⟩
 have ho := inB_iff.1 H1.out
 have hd := inB_iff.1 H2.out
 have ht := H3.out
 unfold tOk at ht
 simp only [Bool.and_eq_true, decide_eq_true_eq] at ht
 obtain ⟨o', rfl⟩ := Int.eq_ofNat_of_zero_le ho.1
 obtain ⟨d', rfl⟩ := Int.eq_ofNat_of_zero_le hd.1
 obtain ⟨ht1, ht2⟩ := ht
 have hoo : o' < n.offs.length := by omega
 have hdd : d' < n.offs.length := by omega
 clear ho hd
 go_wp2_with fail
 refine (demand_yes _).mono ?_
 rintro e w' ⟨rfl, rfl⟩
 go_wp2_with fail
 refine (walk_any _ n A c nx o' d' t _ HNP2.out HT2.out H4.out.1.good H5.out hoo hdd ht1 (by omega)).mono ?_
 rintro e w3 ⟨hb, hr⟩
 have hr' : wayR n nx d' 19 o' t = wayTop n nx o' d' t := HR.out.symm
 rw [hr'] at hr
 have HD3 := Lib.hid (HD2.out.below hb)
 have HSZ : Hid (w.heap.size + 1 + 1 < w2.heap.size) := block_lt HD2.out.2.2
 clear hb HD2 HNP2 HT2 hr'
 rcases hr with ⟨h0, A3, c3, rfl, ho3⟩ | ⟨hne, rfl⟩
 case inr =>
  have HNE := Lib.hid hne; clear hne
  refine leaves_cons (f := 52) (args := #[.pointer (some ⟨w.heap.size + 1, 0, none⟩), .pointer (some ⟨w.heap.size + 1 + 1, 0, none⟩)]) (by simp) (by simp [go_sem]) ?_
  refine (way_pan (w.heap.size + 1) (w.heap.size + 1 + 1) _ _ _ _ _ (cell_of_row _ _ 0 _ _ _ HD3.out.2.1) (frozen_row HD3.out.2.1 0) (cell_of_row _ _ 0 _ _ _ HD3.out.2.2) (frozen_row HD3.out.2.2 0) (by omega)).mono ?_
  rintro e u' w'' ⟨rfl, rfl, rfl⟩
  exact ⟨_, ((HD3.out.set1 (.slice none 0 0)).set2 (iV (wayTop n nx o' d' t).1)).res _ rfl rfl, by
   have h1 : wayTop n nx o' d' t = ((wayTop n nx o' d' t).1, []) := by
    have := wayR_nil n nx d' 19 o' t
    rw [show wayR n nx d' 19 o' t = wayTop n nx o' d' t from HR.out.symm] at this
    rw [<- this HNE.out]
   have h2 := WayRes.bad (wayTop n nx o' d' t).1 ((HD3.out.set1 (.slice none 0 0)).set2 (iV (wayTop n nx o' d' t).1))
   rw [<- h1] at h2
   exact h2⟩
 case inl =>
  have H0 := Lib.hid h0; clear h0
  have HO3 := Lib.hid ho3; clear ho3
  have hc1 : w3.cell? ⟨w.heap.size + 1, 0, none⟩ = some (.slice none 0 0) := cell_of_row _ _ 0 _ _ _ HD3.out.2.1
  have hf1 : w3.frozen? ⟨w.heap.size + 1, 0, none⟩ = false := frozen_row HD3.out.2.1 0
  have hc2 : (w3.setCell ⟨w.heap.size + 1, 0, none⟩ (.slice A3 (wayTop n nx o' d' t).2.length c3)).cell? ⟨w.heap.size + 1 + 1, 0, none⟩ = some (iV 0) := cell_of_row _ _ 0 _ _ _ (HD3.out.set1 _).2.2
  have hf2 : (w3.setCell ⟨w.heap.size + 1, 0, none⟩ (.slice A3 (wayTop n nx o' d' t).2.length c3)).frozen? ⟨w.heap.size + 1 + 1, 0, none⟩ = false := frozen_row (HD3.out.set1 _).2.2 0
  go_wp2_with fail
  refine leaves_cons (f := 52) (args := #[.pointer (some ⟨w.heap.size + 1, 0, none⟩), .pointer (some ⟨w.heap.size + 1 + 1, 0, none⟩)]) (by simp) (by simp [go_sem]) ?_
  refine (way_idle (w.heap.size + 1) (w.heap.size + 1 + 1) _).mono ?_
  rintro e u' w'' ⟨rfl, rfl, rfl⟩
  have hD4 := (HD3.out.set1 (.slice A3 (wayTop n nx o' d' t).2.length c3)).set2 (iV 0)
  refine ⟨_, hD4.res _ rfl rfl, hD4.1, A3, c3, by rw [H0.out], ?_⟩
  have hlt := HO3.out.lt
  exact rd_own ((HO3.out.kept (grown_set _ _ _ _) (.inr (fun e => by have := (hlt _ e).1; have := HSZ.out; omega))).kept (grown_set _ _ _ _) (.inr (fun e => by have := (hlt _ e).1; have := HSZ.out; omega)))
theorem step_dec (n : Net) (nx : List NsC) (canc : List Int) (dst : Int) (it : Itm) : (stepI n nx canc dst it).stops.dropLast = it.stops.dropLast ++ [{ lastSt it.stops with depart := it.leave, line := it.line }] := gone_dec it
theorem Moves.same {n : Net} {nx : List NsC} {canc : List Int} {dst t : Int} {it x : Itm} (h : Moves n nx canc dst t it x) : SameI it x := by
 induction h with
 | stay _ => exact SameI.refl _
 | @go it _ _ _ _ ih => exact SameI.trans (b := stepI n nx canc dst it) ⟨rfl, rfl, rfl, rfl⟩ ih
theorem way_moves {n : Net} {nx : List NsC} (hG : Good n) (hF : Formed n nx) {dst : Nat} (hd : dst < n.offs.length) : ∀ (f o : Nat) (t : Int) (it e : Itm) (w : List St), wayR n nx dst f o t = (0, w) -> o < n.offs.length -> Moves n nx [] (dst : Int) bigT it e -> DecOk n nx [] (dst : Int) it -> it.lost = false -> it.holds = 0 -> it.stops ≠ [] ->
      lastSt it.stops = ⟨o, t, -1, -1⟩ -> sinL it <= t -> e.stops = it.stops.dropLast ++ w
 | f, o, t, it, e, w, h, ho, hm, hdec, hl, hh, hne, hlast, hsin => by
  have hstop : o = dst -> it.line = -1 := fun ho2 => by
   rw [hdec.1]
   unfold decR
   rw [if_pos (.inr (by rw [hlast, ho2]))]
  by_cases ho2 : o = dst
  ·have hw : w = [⟨o, t, -1, -1⟩] := by
    cases f with
    | zero => rw [wayR, if_pos ho2] at h; exact (congrArg Prod.snd h).symm
    | succ f => rw [wayR, if_pos ho2] at h; exact (congrArg Prod.snd h).symm
   have h1 := hstop ho2
   have he : e = it := by
    cases hm with
    | stay _ => rfl
    | go g _ _ => have := g.1; omega
   rw [he, hw, <- hlast]
   exact snoc_of hne
  ·cases f with
   | zero =>
    exfalso
    rw [wayR, if_neg ho2] at h
    split at h
    ·cases congrArg Prod.fst h
    ·simp only at h
     split at h
     ·cases congrArg Prod.fst h
     ·rename_i g
      exact g (congrArg Prod.fst h)
   | succ f =>
    rw [wayR, if_neg ho2] at h
    split at h
    ·cases congrArg Prod.fst h
    ·rename_i hnx
     simp only at h
     split at h
     case isFalse => rename_i g; exact absurd (congrArg Prod.fst h) g
     rename_i hdp
     split at h
     case isFalse => rename_i g; exact absurd (congrArg Prod.fst h) g
     rename_i hrec
     have hw := congrArg Prod.snd h
     simp only at hw
     rcases nxAt_line hF ho hd with e1 | ⟨e1, e2, e3⟩
     ·exact absurd e1 hnx
     have hfrm : (linAt n (nxAt nx o dst).toNat).frm.toNat = o := by rw [e3]; omega
     have hOff := hG.off _ (List.mem_of_getElem? (offAt_get ho))
     have hrd : t <= readyR (offAt n o) t := by
      unfold readyR
      have : 0 <= (offAt n o).passes * (offAt n o).minutes := Int.mul_nonneg (by omega) (by omega)
      omega
     have hfr : fromT n it = readyR (offAt n o) t := by
      unfold fromT
      rw [hlast]
      show max (readyR (offAt n o) t) (sinL it) = _
      omega
     have hdt : depT n (nxAt nx o dst) (readyR (offAt n o) t) = departR (calAt n o) (linAt n (nxAt nx o dst).toNat) (readyR (offAt n o) t) := by
      unfold depT
      rw [hfrm]
     have hg : GoesBy n nx [] (dst : Int) it (nxAt nx o dst) (departR (calAt n o) (linAt n (nxAt nx o dst).toNat) (readyR (offAt n o) t)).1 := ⟨hl, by rw [hlast]; show (o : Int) ≠ dst; omega, by rw [hlast]; rfl, by simp, e1, by
      rw [hh, hfr, leaveF, hdt, if_pos hdp]⟩
     have hdr := decR_of hg
     have hli : it.line = nxAt nx o dst := by rw [hdec.1, hdr]
     have hlv : it.leave = (departR (calAt n o) (linAt n (nxAt nx o dst).toNat) (readyR (offAt n o) t)).1 := by rw [hdec.2, hdr]
     have hdo := depT_ok (v := (depT n (nxAt nx o dst) (readyR (offAt n o) t)).1) (t := readyR (offAt n o) t) hG e1 e2 (by rw [hdt, <- hdp])
     rw [hdt] at hdo
     have hL := hG.lin _ (List.mem_of_getElem? (linAt_get (n := n) (l := (nxAt nx o dst).toNat) (by omega)))
     cases hm with
     | stay g => exact absurd ⟨by rw [hli]; exact e1, by rw [hlv]; unfold bigT; omega⟩ g
     | go _ _ hm2 =>
      have hs2 : lastSt (stepI n nx [] (dst : Int) it).stops = ⟨((linAt n (nxAt nx o dst).toNat).to.toNat : Int), (departR (calAt n o) (linAt n (nxAt nx o dst).toNat) (readyR (offAt n o) t)).1 + (linAt n (nxAt nx o dst).toNat).travel, -1, -1⟩ := by
       show lastSt (it.stops.dropLast ++ [_] ++ [_]) = _
       rw [lastSt_snoc, hli, hlv, show (((linAt n (nxAt nx o dst).toNat).to.toNat : Nat) : Int) = (linAt n (nxAt nx o dst).toNat).to by omega]
      have := way_moves hG hF hd f (linAt n (nxAt nx o dst).toNat).to.toNat _ (stepI n nx [] (dst : Int) it) e _ (by rw [<- hrec]) (by omega) hm2 (decide_ok _ _ _ _ _) hl rfl (by unfold stepI decideI goneI; simp) hs2 (by
       show sinL it <= _
       omega)
      rw [this, step_dec, <- hw, hlast, hli, hlv]
      simp
theorem way_alone {n : Net} {nx : List NsC} (hG : Good n) (hF : Formed n nx) {p : Ded} {h : Hst} {o d : Nat} {w : List St} (hk : p.kind = 1) (hr : runR n nx [p] = some h) (ho : p.post.frm = (o : Int)) (hd : p.post.dst = (d : Int)) (ho1 : o < n.offs.length) (hd1 : d < n.offs.length) (hw : wayR n nx d 19 o p.post.acc = (0, w)) :
  ∃ e, h.items = [e] /\ e.stops = w /\ e.lost = false /\ e.labs = [p.post.label] /\ e.since = [p.post.acc] /\ e.post = p.post := by
 obtain ⟨e, he, hm⟩ := run_post hk hr
 have hs := hm.same
 rw [hd] at hm
 have := way_moves hG hF hd1 19 o p.post.acc _ e w hw ho1 hm (decide_ok _ _ _ _ _) rfl rfl (by unfold decideI newI; simp) (by show lastSt [_] = _; rw [ho]; rfl) (Int.le_refl _)
 exact ⟨e, he, by rw [this]; rfl, hs.lost, hs.labs, hs.since, hs.post⟩
def CleanI (n : Net) (nx : List NsC) (it : Itm) : Prop := ∃ h e, runR n nx [postD it.post] = some h /\ h.items = [e] /\ joinB (wordsI it) = joinB (wordsI e)
theorem clean_way {n : Net} {nx : List NsC} (hG : Good n) (hF : Formed n nx) {ds : List Ded} {h : Hst} (hr : runR n nx ds = some h) (hd : DedsOk n [] 0 ds) {it : Itm} (hi : it ∈ h.items) (hc : CleanI n nx it) {o d : Nat} {w : List St} (ho : it.post.frm = (o : Int)) (hdst : it.post.dst = (d : Int)) (hw : wayR n nx d 19 o it.post.acc = (0, w)) :
  it.stops = w /\ it.lost = false /\ it.labs = [it.post.label] := by
 obtain ⟨H, -⟩ := run_ok hG hF hr hd
 obtain ⟨h2, e, hr2, he, ht⟩ := hc
 have hp := H.pst it hi
 obtain ⟨H2, -⟩ := run_ok hG hF hr2 (postD_ok hp)
 have hei : e ∈ h2.items := by rw [he]; exact List.mem_singleton.2 rfl
 have ho1 : o < n.offs.length := by have := hp.2.1; omega
 have hd1 : d < n.offs.length := by have := hp.2.2.1; omega
 obtain ⟨e', he', w1, w2, w3, w4, -⟩ := way_alone hG hF (p := postD it.post) rfl hr2 ho hdst ho1 hd1 hw
 rw [he] at he'
 cases he'
 obtain ⟨t1, t2, t3, t4, -⟩ := text_inj (H.item it hi) (H2.item e hei) (labs_posted H hi) (labs_posted H2 hei) ht
 exact ⟨by rw [t2, w1], by rw [t1, w2], by rw [t4, w3]; rfl⟩
section
attribute [local go_sem] Oper.semAt_some
theorem cleanB_spec {n : Net} {nx : List NsC} {ds : List Ded} {h : Hst} (hr : runR n nx ds = some h) (hN : (h.items.map fun i => i.post.label).Nodup) {it : Itm} (hi : it ∈ h.items) (hc : cleanB n nx ds it.post.label = true) : CleanI n nx it := by
 unfold cleanB at hc
 rw [hr] at hc
 simp only at hc
 have hf : h.items.find? (fun j => j.post.label == it.post.label) = some it := by
  clear hc hr
  generalize h.items = l at *
  induction l with
  | nil => cases hi
  | cons x l ih =>
   rw [List.map_cons, List.nodup_cons] at hN
   rcases List.mem_cons.1 hi with rfl | hi
   ·simp
   ·have hne : x.post.label ≠ it.post.label := fun e => hN.1 (by rw [e]; exact List.mem_map.2 ⟨it, hi, rfl⟩)
    rw [List.find?_cons_of_neg (by simpa using hne)]
    exact ih hN.2 hi
 rw [hf] at hc
 simp only at hc
 cases hg : runR n nx [postD it.post] with
 | none => rw [hg] at hc; cases hc
 | some g =>
  rw [hg] at hc
  obtain ⟨e, he, -⟩ := run_post rfl hg
  simp only at hc
  rw [he] at hc
  exact ⟨g, e, hg, he, by simpa using hc⟩
end
end Go.Proofs.YtpeaiphdkgifaaaGreatDoor
