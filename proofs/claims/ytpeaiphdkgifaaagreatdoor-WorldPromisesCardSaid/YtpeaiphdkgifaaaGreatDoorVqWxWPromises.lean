/- Rows that are read, rows that are made: what all walks of the -/
import Derived.Test.YtpeaiphdkgifaaaGreatDoorVbl
import Derived.Test.YtpeaiphdkgifaaaGreatDoorVaa
import Derived.Deep.AppendSrc
import Derived.Deep.AppendLies
import Derived.Deep.DeepMust
import Derived.OwnWalk
import Derived.Deep.RegionHeld3
import Derived.Laws.BytesArg
import Derived.RangeFuncNested
import Derived.RangeFuncBound
import Derived.RangeFuncCalls
import Derived.RangeFuncLeaves
import Derived.Shelf.Abstract
import Derived.Shelf.RegionOpen
import Derived.OwnWalkIn
import Derived.TacticsInMore
import Derived.LoopNIn
import Derived.LoopIn
import Derived.Test.YtpeaiphdkgifaaaGreatDoorVab
import Derived.RangeFuncFrom
import Derived.Laws.EntriesVeiled
import Derived.Test.YtpeaiphdkgifaaaGreatDoorVac
import Derived.Defers
import Derived.Recover
import Derived.Test.YtpeaiphdkgifaaaGreatDoorVai
import Derived.Test.YtpeaiphdkgifaaaGreatDoorVaj
import Derived.RecoverIn
import Derived.Test.YtpeaiphdkgifaaaGreatDoorVap
import Derived.Test.YtpeaiphdkgifaaaGreatDoorVay
import Derived.Test.YtpeaiphdkgifaaaGreatDoorVaz
import Derived.Test.YtpeaiphdkgifaaaGreatDoorVbj
import Derived.Test.YtpeaiphdkgifaaaGreatDoorVbi
import Derived.Test.YtpeaiphdkgifaaaGreatDoorVbe
namespace Go.Proofs.YtpeaiphdkgifaaaGreatDoor
open Go.RowKit
set_option maxHeartbeats 20000000
set_option maxRecDepth 100000
theorem vg {P : Program} {w : World} {ops : Array Oper} {o : Oper} {a : Act} {K : Act -> World -> Prop} {Q : Exit -> Act -> World -> Prop} {E : Prop} (hgd : o.guard = none) (s x : Operand) (t tx : TypeId)
  (ho : o.op = .call { callee := .builtin .append, args := #[s, x], argTypes := #[t, tx] })
  (base : Nat) (e : TypeId) (i : TypeInfo) (z : Value) (size bytes : Nat) (ht : P.underlying t = some (.slice e)) (hi : P.info? e = some i) (hz : i.zero = some z)
  (hsize : i.size = size) (hby : i.bytes = bytes) (hzs : z.cells.size = size)
  (v : Value) (n : Nat) (xs : List Value) (hs : a.eval s = v) (hown : w.ownsRow base e size v n xs) (vx : Value) (hx : a.eval x = vx) (m : Nat) (news : List Value) (hsrc : Src P size tx vx m news w)
  (h63 : n + m <= maxLen) (hbytes : (n + m) * bytes <= 140737488355328) (hbase : base <= w.heap.size)
  (h : ∀ A c w', w'.ownsRow base e size (.slice A (n + m) c) (n + m) (xs ++ news) -> w.grownBy w' v.ownBlock -> ((Value.slice A (n + m) c).ownBlock = v.ownBlock ∨ (Value.slice A (n + m) c).ownBlock = some w.heap.size) -> K (a.put o.dst (.slice A (n + m) c)) w') :
  if Region.wanted o (yielded ops a.tmps) = true then Oper.wp P o a w K Q else E := by
 have hw : Region.wanted o (yielded ops a.tmps) = true := by simp [Region.wanted, hgd]
 rw [if_pos hw]
 exact uR s x t tx ho base e i z size bytes ht hi hz hsize hby hzs v n xs hs hown vx hx m news hsrc h63 hbytes hbase h
def qE (c : Cal) : Nat -> Int -> Option Int
 | 0, d => some d
 | n + 1, d => (dL c 60 (d + 1)).bind (qE c n)
def rj (P : Program) (l : Nat) (f : FuncId) (R : Ending -> World -> Prop) : Exit -> Act -> World -> Prop
 | .normal, _, w => ∃ v w', (Instr.endRound l none).run P w = .ok v w' /\ R (.returned v) w'
 | .panic ch, a, w => a.defers = [] /\ (∃ fn, P.funcs[f]? = some fn) /\ R (.panicked ch) w
 | _, _, _ => False
theorem tF {F : Fence} {n : Nat} {P : Program} {l : Nat} {f : FuncId} {tmps : Array Value} {assign body : Code} {w : World} {R : Ending -> World -> Prop} (hF : F.fn f)
  (h : assign.wpIn (F.inRound l) n P (Exit.then (fun a₁ w₁ => ∃ w₂, (Instr.beginRound l).run P w₁ = .ok () w₂ /\ body.wpIn (F.inRound l) n P (rj P l f R) a₁ w₂) (fun _ _ _ => False))
   { tmps := tmps, defers := [] } w) :
  RoundIn F n P l f tmps assign body w R := by
 refine ⟨hF, fun c cs hr => ?_⟩
 let b : Frame := { (default : Frame) with fn := f, kind := .normal, roundOf := some l }
 have hb0 : Frame.round l f tmps assign body .normal = b.atR { tmps := tmps, defers := [] } [.code assign, .beginRound, .code body] := by
  simp [Frame.round, Frame.atR, b]
 have hr' : (F.inRound l).room ((c :: cs).length + 1 + n) := hr
 have hF' : (F.inRound l).fn b.fn := hF
 obtain ⟨e, a₁, w₁, hq, harr⟩ := h b [.beginRound, .code body] (c :: cs) rfl hF' hr'
 rw [<- hb0] at harr
 cases e with
 | normal =>
  obtain ⟨w₂, hbr, hbody⟩ := hq
  have s1 : StepsIn (Machine.fenced P (F.inRound l)) P (lone (b.atR a₁ [.beginRound, .code body]) (c :: cs) w₁) (lone (b.atR a₁ [.code body]) (c :: cs) w₂) :=
   .one (fenced_calm (fr := b.atR a₁ [.beginRound, .code body]) hF' hr' rfl) (stepR_beginRound rfl hbr)
  obtain ⟨e₂, a₂, w₃, hq₂, harr₂⟩ := hbody b [] (c :: cs) rfl hF' hr'
  cases e₂ with
  | normal =>
   obtain ⟨v, w₄, hend, hR⟩ := hq₂
   exact ⟨.returned v, w₄, hR, (StepsIn.trans harr s1).trans (StepsIn.trans harr₂ (.one (fenced_calm (fr := b.atR a₂ []) hF' hr' rfl) (stepR_round_end rfl rfl hend)))⟩
  | panic chain =>
   obtain ⟨hd, ⟨fn, hfn⟩, hR⟩ := hq₂
   obtain ⟨todo, hs⟩ := harr₂
   have hlv : ({ b.atR a₂ todo with mode := .panicking chain } : Frame).leaving P w₃ (.panicked chain) := ⟨rfl, hd, fn, hfn⟩
   have hl : (lone { b.atR a₂ todo with mode := .panicking chain } (c :: cs) w₃).fenced P (F.inRound l) := fenced_leaving (F := F.inRound l) hF hr' hlv
   exact ⟨.panicked chain, w₃, hR, (StepsIn.trans harr s1).trans (StepsIn.trans hs (.one hl (step_leave_panicked hlv)))⟩
  | ret => exact hq₂.elim
  | exit id => exact hq₂.elim
  | goto t => exact hq₂.elim
  | outgrown => exact hq₂.elim
 | exit id => exact hq.elim
 | goto t => exact hq.elim
 | ret => exact hq.elim
 | panic chain => exact hq.elim
 | outgrown => exact hq.elim
section
attribute [local go_sem] Oper.semAt_some
theorem wd_ne {w w0 : World} {c : Cal} {P Q B1 B2 B3 X : Nat} (hc : cP w0 c) (hX : w0.heap.size <= X) (hX2 : X < w.heap.size) (hf : ∀ b ∈ [P, Q, B1, B2, B3], w.heap.size <= b) : ∀ b ∈ wdB c P Q B1 B2 B3, b ≠ X := by
 intro b hb
 have h1 : b ∈ [P, Q, B1, B2, B3] ∨ b ∈ (if c.hol = [] then [] else (c.hA.map (·.block)).toList) := by
  simp only [wdB, List.mem_cons] at hb ⊢
  rcases hb with h | h | h | h | h | h
  ·exact .inl (.inl h)
  ·exact .inl (.inr (.inl h))
  ·exact .inl (.inr (.inr (.inl h)))
  ·exact .inl (.inr (.inr (.inr (.inl h))))
  ·exact .inl (.inr (.inr (.inr (.inr (.inl h)))))
  ·exact .inr h
 rcases h1 with h1 | h1
 ·have := hf b h1; omega
 ·by_cases h0 : c.hol = []
  ·rw [if_pos h0] at h1; cases h1
  ·rw [if_neg h0] at h1
   rcases hc.2.2.1 with h2 | ⟨b', off, hA, hb', _⟩
   ·exact absurd (List.map_eq_nil_iff.1 h2) h0
   ·rw [hA] at h1
    simp at h1
    omega
end
section
attribute [local go_sem] Oper.semAt_some
def eR (c : Cal) (a b : Int) : Int := if a + 2000 < b then -1 else (bY c (b - a).toNat (a + 1)).length
theorem uy (c : Cal) (a b : Int) (w : World) (hc : cP w c) (hv : du c = true) (ha : dr a = true) (hb : dr b = true) :
  Calls Tryz.prog 177 #[eI c, iV a, iV b] w fun e w' => e = .returned (iV (eR c a b)) /\ Below w.heap.size w w' := by
 have HV := aB hv
 have HZ := aB (cV hv)
 have HDA := aB ha
 have HDB := aB hb
 unfold dr at ha hb
 simp only [Bool.and_eq_true, decide_eq_true_eq] at ha hb
 obtain ⟨a1, a2⟩ := ha
 obtain ⟨b1, b2⟩ := hb
 have HC := aB hc
 clear hc hv
 have HX : Hid ((w.alloc (.cells #[iV c.zone, .slice c.wA c.week.length c.wc, .slice c.hA c.hol.length c.hc] 110)).heap[w.heap.size]? = some (.cells #[iV c.zone, .slice c.wA c.week.length c.wc, .slice c.hA c.hol.length c.hc] 110)) := aC _ _
 have HB0 := aB (ba w (.cells #[iV c.zone, .slice c.wA c.week.length c.wc, .slice c.hA c.hol.length c.hc] 110))
 refine eT Tryz.func177 rfl ?_
 simp only [Tryz.ntmps177, List.size_toArray, List.length_cons, List.length_nil, Nat.reduceAdd, Nat.reduceSub, Array.replicate_succ, Array.replicate_zero, List.push_toArray, List.append_toArray, List.nil_append, List.cons_append]
 go_upto_region 1 with fail
 change Code.wp _ _ _ _ (w.alloc (.cells #[iV c.zone, .slice c.wA c.week.length c.wc, .slice c.hA c.hol.length c.hc] 110))
 generalize (w.alloc (.cells #[iV c.zone, .slice c.wA c.week.length c.wc, .slice c.hA c.hol.length c.hc] 110)) = W0 at *
 have k0 : W0.cell? (aV w.heap.size 0) = some (iV c.zone) := aA 0 HX.out
 have k1 : W0.cell? (aV w.heap.size 1) = some (.slice c.wA c.week.length c.wc) := aA 1 HX.out
 have k2 : W0.cell? (aV w.heap.size 2) = some (.slice c.hA c.hol.length c.hc) := aA 2 HX.out
 go_wp2_with fail
 refine (dU c _ (HC.out.below HB0.out)).mono ?_
 rintro e w1 ⟨rfl, hb⟩
 rw [HV.out]
 have HX1 := aB (bF (w := w) HX.out hb)
 have HB1 := aB (HB0.out.trans (hb.mono HB0.out.size))
 clear hb HX HB0 k0 k1 k2
 have k0 : w1.cell? (aV w.heap.size 0) = some (iV c.zone) := aA 0 HX1.out
 have k1 : w1.cell? (aV w.heap.size 1) = some (.slice c.wA c.week.length c.wc) := aA 1 HX1.out
 have k2 : w1.cell? (aV w.heap.size 2) = some (.slice c.hA c.hol.length c.hc) := aA 2 HX1.out
 go_wp2_with fail
 refine (fh a _).mono ?_
 rintro e w2 ⟨rfl, rfl⟩
 rw [HDA.out]
 go_wp2_with fail
 refine (fh b _).mono ?_
 rintro e w2 ⟨rfl, rfl⟩
 rw [HDB.out]
 by_cases hfar : a + 2000 < b
 ·have HR : Hid (eR c a b = -1) := by show _ = _; unfold eR; rw [if_pos hfar]
  go_wp2_with fail
  all_goals first | (exfalso; omega) | skip
  refine ⟨_, by simp [results, Tryz.results177]; rfl, ?_, HB1.out⟩
  rw [HR.out]
 ·have HR : Hid (eR c a b = (bY c (b - a).toNat (a + 1)).length) := by show _ = _; unfold eR; rw [if_neg hfar]
  have hz1 : w.heap.size < w1.heap.size := aa HX1.out
  have HW7 := aB (aC w1 (.cells #[iV 0] 3))
  have HB7 := aB (bt HB1.out (ba w1 (.cells #[iV 0] 3)))
  have HX7 := aB (bF (w := w) HX1.out (ba w1 (.cells #[iV 0] 3)))
  clear k0 k1 k2
  have k0 : (w1.alloc (.cells #[iV 0] 3)).cell? (aV w.heap.size 0) = some (iV c.zone) := aA 0 HX7.out
  have k1 : (w1.alloc (.cells #[iV 0] 3)).cell? (aV w.heap.size 1) = some (.slice c.wA c.week.length c.wc) := aA 1 HX7.out
  have k2 : (w1.alloc (.cells #[iV 0] 3)).cell? (aV w.heap.size 2) = some (.slice c.hA c.hol.length c.hc) := aA 2 HX7.out
  go_wp2_with fail
  all_goals first | (exfalso; omega) | skip
  refine (jP c (a + 1) (b - a) _ (HC.out.below HB7.out) HV.out).mono ?_
  rintro e w2 ⟨P, Q, B1, B2, B3, rfl, hwd, hb, hfr⟩
  have HNE := aB (wd_ne HC.out (aI hz1) (by simp) hfr)
  have HWD := aB hwd
  have H7 := aB (bF (w := w) HW7.out hb)
  have HB2 := aB (bt HB7.out hb)
  clear hwd hb hfr HW7 HB7 HX7 HX1 HB1 k0 k1 k2
  go_wp2_with fail
  have hz2 : w.heap.size <= w2.heap.size := HB2.out.size
  refine (wpIn_wide (n := 9)).1 (wpIn_rangeFunc_ownF (F := Fence.wide) (n := 9) rfl (by omega) (gf := 179) (lb := #[.pointer (some (aV B1 0)), .pointer (some (aV B2 0)), .pointer (some (aV B3 0))]) rfl trivial (enters_of Tryz.func179 (by kernel_rfl) rfl)
   (jY c P Q B1 B2 B3 (a + 1) (b - a) w2 HWD.out HZ.out.2.2.2.2 (by omega) (by omega) (by omega) (by omega)) oI (oJ (qS HWD.out)) (aJ _ _) (fun _ => rfl)
   (fun pre W => W.cell? (aV w1.heap.size 0) = some (iV (pre.length : Nat)) /\ W.frozen? (aV w1.heap.size 0) = false /\ Below w.heap.size w W)
   (fun cd pre W => False)
   (fun s A B row hs hg hr => ⟨cell_kept hs.1 hg (fun r e => (hr r e).2), (frozen_kept hs.1 hg (fun r e => (hr r e).2)).trans hs.2.1, hs.2.2.grown hg hs.2.2.size (fun k e => aG hz2 (hr k e).1)⟩)
   (fun cd s A B row hs hg hr => hs)
   ⟨aA 0 H7.out, ac H7.out 0, HB2.out⟩
   (fun x => { tmps := #[eI c, iV a, iV b, .pointer (some (aV w.heap.size 0)), undef, undef, iV 0, .pointer (some (aV w1.heap.size 0)), .agg #[iV c.zone, .slice c.wA c.week.length c.wc, .slice c.hA c.hol.length c.hc], .bool true, .bool false, .bool false, iV a, .bool true, .bool false, .bool false, .bool false, iV b, .bool true, .bool false, .bool false, .bool false, iV b, iV a, iV (a + 2000), .bool (decide (a + 2000 < b)), .bool (decide (a + 2000 < b)), .agg #[iV c.zone, .slice c.wA c.week.length c.wc, .slice c.hA c.hol.length c.hc], iV a, iV (a + 1), iV b, iV a, iV (b - a), .func (.func 179) #[] #[.pointer (some (aV B1 0)), .pointer (some (aV B2 0)), .pointer (some (aV B3 0))], iV x.1, undef, undef, undef], defers := [] }) ?assign ?body ?done ?stop)
  case assign =>
   intro l x W K hK
   gi_wp2
   exact hK
  case body =>
   rintro l pre x W ⟨hc4, hf4, hb⟩ hlen
   have HB := aB hb; clear hb
   have hl2 : (pre.length : Int) < 3000000 := by omega
   clear hlen
   gi_wp2
   refine ⟨KeepsOthers.setCell _ _ _, ⟨fun b hb => Below.heap_setCell _ _ _ _ (by show b ≠ _; exact HNE.out b hb), by simp [World.setCell]⟩, ?_, by rw [World.frozen?_setCell]; exact hf4, HB.out.setCell (p := (aV w1.heap.size 0)) (aI hz1) _⟩
   rw [World.cell?_setCell_same' _ _ _ (by rw [hc4]; rfl)]
   simp
  case done =>
   rintro D xs W hD hS ⟨hc4, hf4, hb⟩ hK
   have HB := aB hb; clear hb
   have hxl : xs.length = (bY c (b - a).toNat (a + 1)).length := by rw [<- hS]; simp [jF]
   have HXL := aB hxl
   have HD := aB hK
   clear hS hK hxl
   go_wp2
   refine ⟨by simp, .inl ⟨_, _, rfl, run_takeDeferred HD.out, ?_⟩⟩
   refine ⟨_, by simp [results, Tryz.results177]; rfl, ?_, HB.out.grown (grownBy_putObj' _ D (.deferred none)) HB.out.size (fun k e => by cases e; omega)⟩
   rw [HR.out, <- HXL.out]
  case stop =>
   rintro D cd pre W hD hS h hK
   exact h.elim
end
theorem iD (N : Nat) (n : Net) (l o ci : Nat) (L : Lin) (of : Off) (c : Cal) (t : Int) (w : World) (hN : br w N n) (h0 : n.lins[l]? = some L) (hf : L.frm = (o : Int)) (h1 : n.offs[o]? = some of) (h2 : of.cal = (ci : Int)) (h3 : n.cals[ci]? = some c) (hv : du c = true) (a1 : 0 <= L.at_) (a2 : L.at_ < 1440) :
  Calls Tryz.prog 128 #[.pointer (some (aV N 0)), iV l, iV t] w fun e w' => e = .returned (.tuple #[iV (aZ c L t).1, iV (aZ c L t).2]) /\ Below w.heap.size w w' := by
 obtain ⟨hl, lb, lo, hlA, hlb, -, hlc⟩ := ay bT hN.net.lins h0 (by omega)
 have n4 : w.cell? (aV N 4) = some (.slice n.linA n.lins.length n.linC) := hN.box 4 _ rfl
 have l1 : w.cell? (aV lb (lo + l * 6 + 1)) = some (iV L.frm) := hlc 1 _ rfl
 have l3 : w.cell? (aV lb (lo + l * 6 + 3)) = some (iV L.at_) := hlc 3 _ rfl
 rw [hlA] at n4
 rw [hf] at l1
 have HC := aB (hN.net.cal c (aF h3))
 have HN := aB hN
 have HH := aB (And.intro h1 (And.intro h2 h3))
 have HV := aB hv
 have HSw : Hid (∀ w', Below w.heap.size w w' -> w'.cell? (aV N 4) = some (.slice (some (aV lb lo)) n.lins.length n.linC) /\ w'.cell? (aV lb (lo + l * 6 + 1)) = some (iV (o : Int)) /\ w'.cell? (aV lb (lo + l * 6 + 3)) = some (iV L.at_)) := fun w' hb =>
  ⟨(hb.cell (p := (aV N 4)) hN.lt).trans n4, (hb.cell (p := (aV lb _)) hlb).trans l1, (hb.cell (p := (aV lb _)) hlb).trans l3⟩
 have j1 : (0 : Int) <= (l : Int) := by omega
 have j2 : (l : Int) < (n.lins.length : Int) := by omega
 clear hN hlc h0 hlA hlb h1 h2 h3 hv hf
 go_enter Tryz.func128, Tryz.ntmps128
 go_wp2_with fail
 refine (gp t _).mono ?_
 rintro e w1 ⟨rfl, rfl⟩
 cases ht : tOk t with
 | false =>
  have HR : Hid (aZ c L t = (0, 1)) := by show _ = _; unfold aZ; rw [ht]; rfl
  clear ht
  go_wp2_with fail
  go_ret2
  rw [HR.out]
  exact ⟨rfl, aJ w.heap.size w⟩
 | true =>
  have HR : Hid (aZ c L t = ak c L.at_ t) := by show _ = _; unfold aZ; rw [ht]; rfl
  have ht' := ht
  unfold tOk at ht'
  simp only [Bool.and_eq_true, decide_eq_true_eq] at ht'
  obtain ⟨t1, t2⟩ := ht'
  clear ht
  go_wp2_with fail
  go_region_held3 (fun w' => w'.cell? (aV N 4) = some (.slice (some (aV lb lo)) n.lins.length n.linC) /\ w'.cell? (aV lb (lo + l * 6 + 1)) = some (iV (o : Int)) /\ w'.cell? (aV lb (lo + l * 6 + 3)) = some (iV L.at_)) (first | (with_reducible exact HSw.out _ (al (aJ _ _))) | (with_reducible exact HSw.out _ HB1.out) | (with_reducible exact HSw.out _ HB2.out)) (first
   | (go_at_call 68; refine (eG N n o ci of c _ (HN.out.drewN 1) HH.out.1 HH.out.2.1 HH.out.2.2).mono ?_; rintro e w1 ⟨rfl, hb⟩; have HB1 := aB (bdr hb); clear hb)
   | (go_at_call 67; refine (hO c L.at_ t _ (HC.out.below HB1.out) HV.out a1 a2 (by omega) (by omega)).mono ?_; rintro e w2 ⟨rfl, hb⟩; have HB2 := aB (bt HB1.out hb); clear hb)
   | fail)
  go_wp2_with fail
  go_ret2
  rw [HR.out]
  exact ⟨rfl, HB2.out⟩
abbrev sO (x : Int) : Ending := .panicked [{ v := .iface 38 (iV x), recovered := false }]
theorem fq (w : World) : Calls Tryz.prog 54 #[.bool true] w fun e w' => e = .returned (.tuple #[]) /\ w = w' := by
 go_enter Tryz.func54, Tryz.ntmps54
 go_wp2
 go_end0
 exact ⟨rfl, rfl⟩
theorem fW (w : World) : Calls Tryz.prog 54 #[.bool false] w fun e w' => e = sO 1 /\ w = w' := by
 go_enter Tryz.func54, Tryz.ntmps54
 go_wp2
 exact ⟨rfl, rfl, rfl⟩
theorem ks (x : Int) (w : World) : Calls Tryz.prog 78 #[iV x, iV 0] w fun e w' => e = .returned (iV x) /\ w = w' := by
 go_enter Tryz.func78, Tryz.ntmps78
 go_wp2
 go_ret
 exact ⟨rfl, rfl⟩
theorem ku (x y : Int) (w : World) (hy : y ≠ 0) : Calls Tryz.prog 78 #[iV x, iV y] w fun e w' => e = sO y /\ w = w' := by
 have h1 : (y == 0) = false := by simpa using hy
 go_enter Tryz.func78, Tryz.ntmps78
 go_wp2
 exact ⟨rfl, rfl, rfl⟩
theorem qs (x : Int) (w : World) : Calls Tryz.prog 53 #[.iface 38 (iV x)] w fun e w' => e = .returned (iV x) /\ w = w' := by
 have ht : (Instr.typeAssert (.iface 38 (iV x)) 20 38 true).run Tryz.prog w = .ok (.tuple #[iV x, .bool true]) w := by kernel_rfl
 go_enter Tryz.func53, Tryz.ntmps53
 go_wp2
 go_ret
 exact ⟨rfl, rfl⟩
def bA (n : Net) (nx : List NsC) (dst : Nat) : Nat -> Nat -> Int -> Int × List St
 | 0, o, t => if o = dst then (0, [⟨o, t, -1, -1⟩]) else if aX nx o dst = -1 then (170, []) else
  let d := aZ (calAt n o) (af n (aX nx o dst).toNat) (ax (ap n o) t)
  if d.2 = 0 then (170, []) else (d.2, [])
 | f + 1, o, t => if o = dst then (0, [⟨o, t, -1, -1⟩]) else if aX nx o dst = -1 then (170, []) else
  let d := aZ (calAt n o) (af n (aX nx o dst).toNat) (ax (ap n o) t)
  if d.2 = 0 then
   let r := bA n nx dst f (af n (aX nx o dst).toNat).to.toNat (d.1 + (af n (aX nx o dst).toNat).travel)
   if r.1 = 0 then (0, ⟨o, t, d.1, aX nx o dst⟩ :: r.2) else (r.1, [])
  else (d.2, [])
def m9 (done : List St) (r : Int × List St) : Int × List St := if r.1 = 0 then (0, done ++ r.2) else (r.1, [])
theorem uA (done : List St) (s : St) (r : Int × List St) : m9 done (if r.1 = 0 then (0, s :: r.2) else (r.1, [])) = m9 (done ++ [s]) r := by
 unfold m9
 by_cases h : r.1 = 0
 ·simp [h]
 ·simp [h]
theorem qj {l : List St} {s : St} {x : St} : ((l ++ [x]).flatMap bO).set (l.length * 4 + 3) (iV s.line) = (l ++ [{ x with line := s.line }]).flatMap bO /\ ((l ++ [x]).flatMap bO).set (l.length * 4 + 2) (iV s.depart) = (l ++ [{ x with depart := s.depart }]).flatMap bO := by
 have hl : (l.flatMap bO).length = l.length * 4 := by
  induction l with
  | nil => rfl
  | cons a l ih => rw [List.flatMap_cons, List.length_append, ih, cH, List.length_cons]; omega
 simp only [List.flatMap_append, List.flatMap_cons, List.flatMap_nil, List.append_nil]
 constructor
 ·rw [List.set_append_right _ _ (by rw [hl]; omega), hl, Nat.add_sub_cancel_left]
  rfl
 ·rw [List.set_append_right _ _ (by rw [hl]; omega), hl, Nat.add_sub_cancel_left]
  rfl
theorem pm (n : Net) (nx : List NsC) (d : Nat) : ∀ (f o : Nat) (t : Int), (bA n nx d f o t).1 ≠ 0 -> (bA n nx d f o t).2 = []
 | 0, o, t => by
  unfold bA
  split
  ·intro h; exact absurd rfl h
  ·split
   ·intro _; rfl
   ·dsimp only; split <;> (intro _; rfl)
 | f + 1, o, t => by
  unfold bA
  split
  ·intro h; exact absurd rfl h
  ·split
   ·intro _; rfl
   ·dsimp only
    split
    ·split
     ·intro h; exact absurd rfl h
     ·intro _; rfl
    ·intro _; rfl
theorem wM (r : Int × List St) (h : r.1 ≠ 0 -> r.2 = []) : m9 [] r = r := by
 unfold m9
 by_cases h0 : r.1 = 0
 ·rw [if_pos h0, List.nil_append, <- h0]
 ·rw [if_neg h0, <- h h0]
theorem fO (n : Net) (nx : List NsC) (d f : Nat) (t : Int) : bA n nx d f d t = (0, [⟨d, t, -1, -1⟩]) := by cases f <;> simp [bA]
theorem lN (n : Net) (nx : List NsC) (d f o : Nat) (t : Int) (h : o ≠ d) (hl : aX nx o d = -1) : bA n nx d f o t = (170, []) := by cases f <;> simp [bA, h, hl]
theorem pq (n : Net) (nx : List NsC) (d f o : Nat) (t : Int) (h : o ≠ d) (hl : aX nx o d ≠ -1) (he : (aZ (calAt n o) (af n (aX nx o d).toNat) (ax (ap n o) t)).2 ≠ 0) : bA n nx d f o t = ((aZ (calAt n o) (af n (aX nx o d).toNat) (ax (ap n o) t)).2, []) := by cases f <;> simp [bA, h, hl, he]
theorem sT (n : Net) (nx : List NsC) (d o : Nat) (t : Int) (h : o ≠ d) (hl : aX nx o d ≠ -1) (he : (aZ (calAt n o) (af n (aX nx o d).toNat) (ax (ap n o) t)).2 = 0) : bA n nx d 0 o t = (170, []) := by simp [bA, h, hl, he]
theorem sS (n : Net) (nx : List NsC) (d f o : Nat) (t : Int) (h : o ≠ d) (hl : aX nx o d ≠ -1) (he : (aZ (calAt n o) (af n (aX nx o d).toNat) (ax (ap n o) t)).2 = 0) (done : List St) :
  m9 done (bA n nx d (f + 1) o t) = m9 (done ++ [⟨o, t, (aZ (calAt n o) (af n (aX nx o d).toNat) (ax (ap n o) t)).1, aX nx o d⟩]) (bA n nx d f (af n (aX nx o d).toNat).to.toNat ((aZ (calAt n o) (af n (aX nx o d).toNat) (ax (ap n o) t)).1 + (af n (aX nx o d).toNat).travel)) := by
 rw [<- uA]
 congr 1
 rw [bA]
 rw [if_neg h, if_neg hl]
 simp only [he, if_true]
def ou (w : World) (r : Int × List St) (e : Ending) (w' : World) : Prop :=
 Below w.heap.size w w' /\ ((r.1 = 0 /\ ∃ A c, e = .returned (.slice A r.2.length c) /\ w'.ownsRow w.heap.size 50 4 (.slice A r.2.length c) r.2.length (r.2.flatMap bO)) ∨ (r.1 ≠ 0 /\ e = sO r.1))
theorem stInfo : (Tryz.prog.info? 50).map (fun i => (i.zero, i.size, i.bytes)) = some (some (.agg #[iV 0, iV 0, iV 0, iV 0]), 4, 32) := by kernel_rfl
theorem own_st (w : World) (s : St) : (w.alloc (.cells #[iV s.office, iV s.arrive, iV s.depart, iV s.line] 50)).ownsRow w.heap.size 50 4 (.slice (some (aV w.heap.size 0)) 1 1) 1 (bO s) :=
 ⟨rfl, .inr ⟨w.heap.size, 1, _, rfl, aH _, aC _ _, aH _, by decide, rfl, rfl⟩⟩
theorem pt (N : Nat) (n : Net) (A : Option Addr) (c : Nat) (nx : List NsC) (o0 d : Nat) (t0 : Int) (w : World) (hN : br w N n) (hT : Tab w A nx) (hG : cY n) (hF : bi n nx) (ho : o0 < n.offs.length) (hd : d < n.offs.length) (ht1 : 0 <= t0) (ht2 : t0 <= 3000000) :
  Calls Tryz.prog 59 #[.pointer (some (aV N 0)), .slice A nx.length c, iV o0, iV d, iV t0] w (ou w (bA n nx d 19 o0 t0)) := by
 obtain ⟨i0, hi0, hz0, hz1, hz2⟩ := info_parts stInfo
 have HN := aB hN; clear hN
 have HT := aB hT; clear hT
 have HG := aB hG; clear hG
 have HF := aB hF; clear hF
 have hlen := HF.out.1
 have hoff12 := HG.out.few.2.1
 have HLEN := aB hlen; clear hlen
 go_enter Tryz.func59, Tryz.ntmps59
 go_wp2
 go_loopw [11, 12] (fun v i wr => ∃ (k o : Nat) (t : Int) (done : List St), k = done.length /\ k <= 19 /\ o < n.offs.length /\ 0 <= t /\ t <= 3000000 /\ i = iV k /\ Hid (wr.ownsRow w.heap.size 50 4 v (k + 1) ((done ++ [(⟨o, t, -1, -1⟩ : St)]).flatMap bO)) /\ Hid (Below w.heap.size w wr) /\ Hid (bA n nx d 19 o0 t0 = m9 done (bA n nx d (19 - k) o t))) (fun _ i _ => 20 - (intOf i).toNat)
 case atStart =>
  refine ⟨0, o0, t0, [], rfl, by omega, ho, ht1, ht2, rfl, own_st w ⟨o0, t0, -1, -1⟩, ba w _, ?_⟩
  show _ = _
  rw [wM _ (fun h => pm n nx d 19 o0 t0 h)]
 case round =>
  obtain ⟨k, o, t, done, hk, hk19, hoo, htt1, htt2, rfl, HO, HB, HW⟩ := hrel
  obtain ⟨A2, c2, rfl⟩ := b9 HO.out
  obtain ⟨g, rfl, hg1, hg2, hfz, hcell⟩ := gC HO.out (by omega)
  have HK := aB hk; clear hk
  have cl : ∀ j v, (bO (⟨o, t, -1, -1⟩ : St))[j]? = some v -> wr.cell? (aV g (k * 4 + j)) = some v := fun j v hj => by
   have h1 := g7 bO 4 cH (done ++ [(⟨o, t, -1, -1⟩ : St)]) k j (by rw [HK.out]; simp) (by rcases Nat.lt_or_ge j 4 with h | h; exact h; rw [List.getElem?_eq_none (by rw [cH]; exact h)] at hj; cases hj)
   refine hcell _ v (h1.trans ?_)
   have : (done ++ [(⟨o, t, -1, -1⟩ : St)])[k]'(by rw [HK.out]; simp) = ⟨o, t, -1, -1⟩ := by simp [HK.out]
   rw [this]
   exact hj
  have s0 : wr.cell? (aV g (k * 4)) = some (iV o) := cl 0 _ rfl
  have s1 : wr.cell? (aV g (k * 4 + 1)) = some (iV t) := cl 1 _ rfl
  have s2 : wr.cell? (aV g (k * 4 + 2)) = some (iV (-1)) := cl 2 _ rfl
  have s3 : wr.cell? (aV g (k * 4 + 3)) = some (iV (-1)) := cl 3 _ rfl
  have j1 : (0 : Int) <= (k : Int) := by omega
  have j2 : (k : Int) < ((k + 1 : Nat) : Int) := by omega
  clear cl hcell
  by_cases hod : o = d
  ·subst hod
   have hR : Hid (bA n nx o 19 o0 t0 = (0, done ++ [(⟨o, t, -1, -1⟩ : St)])) := by show _ = _; rw [HW.out, fO]; rfl
   have hlk : Hid (k + 1 = (done ++ [(⟨o, t, -1, -1⟩ : St)]).length) := by show _ = _; rw [HK.out]; simp
   go_wp2
   go_ret
   unfold ou
   rw [hR.out]
   refine ⟨HB.out, .inl ⟨rfl, some (aV g 0), c2, ?_, ?_⟩⟩
   ·rw [<- hlk.out]; rfl
   ·rw [<- hlk.out]; exact HO.out
  ·have hne : ((o : Int) != (d : Int)) = true := by simpa using fun h => hod (by omega)
   have hne2 : ((o : Int) == (d : Int)) = false := by simpa using fun h => hod (by omega)
   obtain ⟨r, hr, hrl, hrf⟩ := HF.out.2 o hoo
   have HRF := aB hrf; clear hrf
   have HRL := aB hrl; clear hrl
   obtain ⟨hrlt, hre⟩ := aE.1 hr
   have HTr := aB (HT.out.below HB.out)
   obtain ⟨nb, no, hnA, -, hnc⟩ := HTr.out.rd.get (i := o) (by rw [List.length_map]; exact hrlt)
   have x1 : wr.cell? (aV nb (no + o)) = some (slI r) := hnc o _ (by rw [aS, hr]; rfl)
   obtain ⟨rb, ro, hrA, -, hrc⟩ := (HTr.out.row r (aF hr)).1.get (i := d) (by rw [List.length_map, HRL.out]; exact hd)
   have hdl : d < r.ns.length := by rw [HRL.out]; exact hd
   have x2 : wr.cell? (aV rb (ro + d)) = some (iV r.ns[d]) := hrc d _ (by simp [hdl])
   have hl : r.ns[d] = aX nx o d := by unfold aX; simp [List.getD, hr, hdl]
   have hlr := HRF.out _ (List.getElem_mem hdl)
   rw [hl] at x2 hlr
   have HLR := aB hlr
   have j3 : (o : Int) < (nx.length : Int) := by have := HLEN.out; omega
   have j4 : (d : Int) < (r.ns.length : Int) := by omega
   have j5 : (0 : Int) <= (o : Int) := by omega
   have j6 : (0 : Int) <= (d : Int) := by omega
   have HNA := aB hnA
   unfold slI at x1
   rw [hrA] at x1
   clear hl hlr hnc hrc hre hr hrA hrlt
   subst hnA
   go_upto_region 7 with fail
   clear x1 x2
   by_cases hno : aX nx o d = -1
   ·have hR : Hid (bA n nx d 19 o0 t0 = (170, [])) := by show _ = _; rw [HW.out, lN n nx d _ o t hod hno]; rfl
    have HNO := aB hno
    rw [hno]
    clear hno
    go_wp2
    refine ⟨rfl, ?_⟩
    unfold ou
    rw [hR.out]
    exact ⟨HB.out, .inr ⟨by decide, rfl⟩⟩
   ·have hno1 : (aX nx o d == -1) = false := by simpa using hno
    obtain ⟨hl0, hl1, hl2⟩ := HLR.out.resolve_left hno
    obtain ⟨li, hli⟩ : ∃ li : Nat, (li : Int) = aX nx o d := ⟨(aX nx o d).toNat, by omega⟩
    have HO1 : Hid ((wr.setCell (aV g (k * 4 + 3)) (iV (aX nx o d))).ownsRow w.heap.size 50 4 (.slice (some (aV g 0)) (k + 1) c2) (k + 1) ((done ++ [(⟨o, t, -1, aX nx o d⟩ : St)]).flatMap bO)) := by
     have h1 := fi HO.out (k * 4 + 3) (iV (aX nx o d))
     have h2 := (qj (l := done) (s := ⟨0, 0, 0, aX nx o d⟩) (x := ⟨o, t, -1, -1⟩)).1
     rw [<- HK.out] at h2
     rw [h2] at h1
     exact h1
    have HB1 : Hid (Below w.heap.size w (wr.setCell (aV g (k * 4 + 3)) (iV (aX nx o d)))) := HB.out.setCell (p := (aV g (k * 4 + 3))) hg1 _
    have y0 : (wr.setCell (aV g (k * 4 + 3)) (iV (aX nx o d))).cell? (aV g (k * 4)) = some (iV o) := by rw [World.cell?_setCell_other _ _ _ _ (by simp)]; exact s0
    have y1 : (wr.setCell (aV g (k * 4 + 3)) (iV (aX nx o d))).cell? (aV g (k * 4 + 1)) = some (iV t) := by rw [World.cell?_setCell_other _ _ _ _ (by simp)]; exact s1
    have y2 : (wr.setCell (aV g (k * 4 + 3)) (iV (aX nx o d))).cell? (aV g (k * 4 + 2)) = some (iV (-1)) := by rw [World.cell?_setCell_other _ _ _ _ (by simp)]; exact s2
    have yf : (wr.setCell (aV g (k * 4 + 3)) (iV (aX nx o d))).frozen? (aV g (k * 4 + 2)) = false := by rw [World.frozen?_setCell]; exact hfz _
    have hg3 : g < (wr.setCell (aV g (k * 4 + 3)) (iV (aX nx o d))).heap.size := aM _ _ y0
    have hf3 := hfz (k * 4 + 3)
    go_upto_region 10 with fail
    clear s0 s1 s2 s3 hf3 HO HB HTr hfz HNA
    change Code.wp _ _ _ _ (wr.setCell (aV g (k * 4 + 3)) (iV (aX nx o d)))
    generalize (wr.setCell (aV g (k * 4 + 3)) (iV (aX nx o d))) = W1 at *
    have HN1 := aB (HN.out.below HB1.out)
    obtain ⟨ci, hci, hcg, hcb⟩ := HG.out.calAt hoo
    obtain ⟨-, p1, p2, m1, m2⟩ := HG.out.off _ (aF (bd hoo))
    have hli' : (aX nx o d).toNat = li := by omega
    rw [hli'] at hl2
    have hlg := bC (n := n) (l := li) (by omega)
    obtain ⟨-, ⟨q1, q2⟩, a1, a2, v1, v2⟩ := HG.out.lin _ (aF hlg)
    have hrr := gU p1 p2 m1 m2
    have hrd : -100000000 <= ax (ap n o) t /\ ax (ap n o) t <= 100000000 := by unfold ax; omega
    have HRD := aB hrd; clear hrd hrr
    have HDP : Hid (Calls Tryz.prog 128 #[.pointer (some (aV N 0)), iV li, iV (ax (ap n o) t)] W1 fun e w' => True) := (iD N n li o ci _ _ _ (ax (ap n o) t) W1 HN1.out hlg hl2 (bd hoo) hci hcg hcb a1 a2).mono (fun _ _ _ => trivial)
    have HLI := aB hli
    have HARG := aB (And.intro hlg (And.intro hl2 (And.intro hci (And.intro hcg (And.intro hcb (And.intro a1 a2))))))
    have HPM := aB (And.intro (And.intro p1 p2) (And.intro m1 m2))
    have HNX : Hid ((aX nx o d).toNat = li) := hli'
    rw [<- hli]
    clear hli hlg hl2 hci hcg hcb a1 a2 p1 p2 m1 m2 hli' HDP hno1
    have HSw : Hid (∀ w', Below W1.heap.size W1 w' -> w'.cell? (aV g (k * 4)) = some (iV (o : Int)) /\ w'.cell? (aV g (k * 4 + 1)) = some (iV t)) := fun w' hb =>
     ⟨(hb.cell (p := (aV g _)) hg3).trans y0, (hb.cell (p := (aV g _)) hg3).trans y1⟩
    have HYF := aB (And.intro y2 yf)
    obtain ⟨D1, D2, hD⟩ : ∃ D1 D2, aZ (calAt n o) (af n li) (ax (ap n o) t) = (D1, D2) := ⟨_, _, rfl⟩
    have HD := aB hD; clear hD
    by_cases hE : D2 = 0
    ·subst hE
     go_region_held3 (fun w' => w'.cell? (aV g (k * 4)) = some (iV (o : Int)) /\ w'.cell? (aV g (k * 4 + 1)) = some (iV t)) (first | (with_reducible exact HSw.out _ (al (aJ _ _))) | (with_reducible exact HSw.out _ HC1.out) | (with_reducible exact HSw.out _ HC2.out) | (exact ⟨(World.cell?_setCell_other _ _ _ _ (by simp)).trans (HSw.out _ HC2.out).1, (World.cell?_setCell_other _ _ _ _ (by simp)).trans (HSw.out _ HC2.out).2⟩)) (first
      | (go_at_call 129; refine (gR N n o (ap n o) t _ (HN1.out.drewN 1) (bd hoo) HPM.out.1.1 HPM.out.1.2 HPM.out.2.1 HPM.out.2.2 (by omega) (by omega)).mono ?_; rintro e w2 ⟨rfl, hb⟩; have HC1 := aB (bdr hb); clear hb)
      | (go_at_call 128; refine (iD N n li o ci _ _ _ (ax (ap n o) t) _ (HN1.out.below HC1.out) HARG.out.1 HARG.out.2.1 (bd hoo) HARG.out.2.2.1 HARG.out.2.2.2.1 HARG.out.2.2.2.2.1 HARG.out.2.2.2.2.2.1 HARG.out.2.2.2.2.2.2).mono ?_; rintro e w3 ⟨rfl, hb⟩; rw [HD.out]; have HC2 := aB (bt HC1.out hb); clear hb; have y3 : w3.cell? (aV g (k * 4 + 2)) = some (iV (-1)) := (HC2.out.cell (p := (aV g _)) hg3).trans HYF.out.1; have yf3 : w3.frozen? (aV g (k * 4 + 2)) = false := (HC2.out.frozen (p := (aV g _)) hg3).trans HYF.out.2)
      | (go_at_call 78; refine (ks D1 _).mono ?_; rintro e w4 ⟨rfl, rfl⟩)
      | fail)
     have HO2 : Hid ((w3.setCell (aV g (k * 4 + 2)) (iV D1)).ownsRow w.heap.size 50 4 (.slice (some (aV g 0)) (k + 1) c2) (k + 1) ((done ++ [(⟨o, t, D1, aX nx o d⟩ : St)]).flatMap bO)) := by
      have h1 := fi (aq HO1.out HC2.out) (k * 4 + 2) (iV D1)
      have h2 := (qj (l := done) (s := ⟨0, 0, D1, 0⟩) (x := ⟨o, t, -1, aX nx o d⟩)).2
      rw [<- HK.out] at h2
      rw [h2] at h1
      exact h1
     have HB2 : Hid (Below w.heap.size w (w3.setCell (aV g (k * 4 + 2)) (iV D1))) := (bt HB1.out HC2.out).setCell (p := (aV g (k * 4 + 2))) hg1 _
     clear y0 y1 y2 yf y3 yf3 HO1 HYF HSw
     go_upto_region 11 with fail
     change Code.wp _ _ _ _ (w3.setCell (aV g (k * 4 + 2)) (iV D1))
     generalize (w3.setCell (aV g (k * 4 + 2)) (iV D1)) = W2 at *
     have HN2 := aB (HN.out.below HB2.out)
     have hE0 : Hid ((aZ (calAt n o) (af n (aX nx o d).toNat) (ax (ap n o) t)) = (D1, 0)) := by show _ = _; rw [HNX.out]; exact HD.out
     by_cases hk2 : k = 19
     ·have hR : Hid (bA n nx d 19 o0 t0 = (170, [])) := by
       show _ = _
       rw [HW.out, show 19 - k = 0 by omega, sT n nx d o t hod hno (by rw [hE0.out])]
       rfl
      subst hk2
      go_wp2
      refine ⟨rfl, ?_⟩
      unfold ou
      rw [hR.out]
      exact ⟨HB2.out, .inr ⟨by decide, rfl⟩⟩
     ·obtain ⟨f, hf⟩ : ∃ f, 19 - k = f + 1 := ⟨18 - k, by omega⟩
      have hR : Hid (bA n nx d 19 o0 t0 = m9 (done ++ [(⟨o, t, D1, aX nx o d⟩ : St)]) (bA n nx d f (af n li).to.toNat (D1 + (af n li).travel))) := by
       show _ = _
       rw [HW.out, hf, sS n nx d f o t hod hno (by rw [hE0.out]) done, hE0.out, HNX.out]
      have HFK : Hid (19 - (k + 1) = f) := by show _ = _; omega
      have k20 : ((k : Int) + 1 == 20) = false := by simp; omega
      have k20' : ¬ (k : Int) + 1 = 20 := by omega
      obtain ⟨hlt, lb, lo, hlA, hlb, hl0', hlc⟩ := ay bT HN2.out.net.lins HARG.out.1 (by omega)
      have n4 : W2.cell? (aV N 4) = some (.slice n.linA n.lins.length n.linC) := HN2.out.box 4 _ rfl
      rw [hlA] at n4
      have c0 : W2.cell? (aV lb (lo + li * 6)) = some (sV (af n li).name) := hl0' _ rfl
      have c1 : W2.cell? (aV lb (lo + li * 6 + 1)) = some (iV (af n li).frm) := hlc 1 _ rfl
      have c2' : W2.cell? (aV lb (lo + li * 6 + 2)) = some (iV (af n li).to) := hlc 2 _ rfl
      have c3 : W2.cell? (aV lb (lo + li * 6 + 3)) = some (iV (af n li).at_) := hlc 3 _ rfl
      have c4 : W2.cell? (aV lb (lo + li * 6 + 4)) = some (iV (af n li).travel) := hlc 4 _ rfl
      have c5 : W2.cell? (aV lb (lo + li * 6 + 5)) = some (iV (af n li).load) := hlc 5 _ rfl
      have z1 : (0 : Int) <= (li : Int) := by omega
      have z2 : (li : Int) < (n.lins.length : Int) := by omega
      clear hf hl0' hlc hlA hlb
      go_upto_region 14 with fail
      have HO3 : Hid ((W2.alloc (.cells #[sV (af n li).name, iV (af n li).frm, iV (af n li).to, iV (af n li).at_, iV (af n li).travel, iV (af n li).load] 52)).ownsRow w.heap.size 50 4 (.slice (some (aV g 0)) (k + 1) c2) (k + 1) ((done ++ [(⟨o, t, D1, aX nx o d⟩ : St)]).flatMap bO)) := HO2.out.alloc _
      have HB3 : Hid (Below w.heap.size w (W2.alloc (.cells #[sV (af n li).name, iV (af n li).frm, iV (af n li).to, iV (af n li).at_, iV (af n li).travel, iV (af n li).load] 52))) := HB2.out.alloc HB2.out.size _
      have hLN : (W2.alloc (.cells #[sV (af n li).name, iV (af n li).frm, iV (af n li).to, iV (af n li).at_, iV (af n li).travel, iV (af n li).load] 52)).heap[W2.heap.size]? = some (.cells #[sV (af n li).name, iV (af n li).frm, iV (af n li).to, iV (af n li).at_, iV (af n li).travel, iV (af n li).load] 52) := aC _ _
      have b2 : (W2.alloc (.cells #[sV (af n li).name, iV (af n li).frm, iV (af n li).to, iV (af n li).at_, iV (af n li).travel, iV (af n li).load] 52)).cell? (aV W2.heap.size 2) = some (iV (af n li).to) := aA 2 hLN
      have b4 : (W2.alloc (.cells #[sV (af n li).name, iV (af n li).frm, iV (af n li).to, iV (af n li).at_, iV (af n li).travel, iV (af n li).load] 52)).cell? (aV W2.heap.size 4) = some (iV (af n li).travel) := aA 4 hLN
      have hX3 : w.heap.size <= (W2.alloc (.cells #[sV (af n li).name, iV (af n li).frm, iV (af n li).to, iV (af n li).at_, iV (af n li).travel, iV (af n li).load] 52)).heap.size := HB3.out.size
      change Code.wp _ _ _ _ (W2.alloc (.cells #[sV (af n li).name, iV (af n li).frm, iV (af n li).to, iV (af n li).at_, iV (af n li).travel, iV (af n li).load] 52))
      generalize (W2.alloc (.cells #[sV (af n li).name, iV (af n li).frm, iV (af n li).to, iV (af n li).at_, iV (af n li).travel, iV (af n li).load] 52)) = W3 at *
      generalize W2.heap.size = X at *
      obtain ⟨g', hg', -, -, -, hcell3⟩ := gC HO3.out (by omega)
      have hgg : g = g' := by injection hg' with h; injection h
      have g2' : W3.cell? (aV g (k * 4 + 2)) = some (iV D1) := by
       rw [hgg]
       have h1 := g7 bO 4 cH (done ++ [(⟨o, t, D1, aX nx o d⟩ : St)]) k 2 (by rw [HK.out]; simp) (by omega)
       refine hcell3 _ _ (h1.trans ?_)
       have : (done ++ [(⟨o, t, D1, aX nx o d⟩ : St)])[k]'(by rw [HK.out]; simp) = ⟨o, t, D1, aX nx o d⟩ := by simp [HK.out]
       rw [this]
       rfl
      have hDB : ax (ap n o) t <= D1 /\ D1 <= ax (ap n o) t + 90000 /\ 0 <= ax (ap n o) t /\ ax (ap n o) t <= 2000000 := by
       have h1 := HD.out
       unfold aZ at h1
       by_cases hok : tOk (ax (ap n o) t) = true
       ·rw [if_pos hok] at h1
        have h2 := cf HARG.out.2.2.2.2.2.1 HARG.out.2.2.2.2.2.2 h1
        unfold tOk at hok
        simp only [Bool.and_eq_true, decide_eq_true_eq] at hok
        omega
       ·rw [if_neg hok] at h1
        have := (Prod.mk.inj h1).2
        omega
      obtain ⟨hd1, hd2, hd3, hd4⟩ := hDB
      obtain ⟨tt, htt⟩ : ∃ m : Nat, (m : Int) = (af n li).to := ⟨(af n li).to.toNat, by omega⟩
      have htn : (af n li).to.toNat = tt := by omega
      have httl : tt < n.offs.length := by omega
      rw [htn] at hR
      rw [<- htt] at b2
      have HTT := aB htt
      generalize (af n li).travel = tv at *
      have e1 : 0 <= D1 + tv := by omega
      have e2 : D1 + tv <= 3000000 := by omega
      have r1 : IntKind.i64.wrap (D1 + tv) = D1 + tv := aO _ (by omega)
      clear hd1 hd2 hd3 hd4 htt htn hcell3 hg' hgg hLN n4 c0 c1 c2' c3 c4 c5 HO2 HB2 q1 q2
      go_region_law ((go_must (refine vg (by rfl) _ _ _ _ (by rfl) w.heap.size 50 i0 _ 4 32 Tryz.underlying45 hi0 hz0 hz1 hz2 (by rfl) _ (k + 1) _ (by rfl) (HO3.out.drew.alloc _) _ (by rfl) 1 (bO ⟨tt, D1 + tv, -1, -1⟩) (fB 4 Tryz.underlying45 (Rd.new _ (bO ⟨tt, D1 + tv, -1, -1⟩) _) rfl (by simp [bO, Value.oneCell'])) (by unfold maxLen; omega) (by omega) (by simp; omega) ?_); intro A4 c4 w4 ho hgr _; have HO4 := aB ho; have HB4 := aB (bp (al HB3.out |>.alloc HB3.out.size _) (aH _) (HO3.out.drew.alloc _) (aH _) hgr); clear ho hgr))
      all_goals
       clear r1 g2' b2 b4
       go_wp2
       go_roundw
       case rel =>
        refine ⟨k + 1, tt, D1 + tv, done ++ [(⟨o, t, D1, aX nx o d⟩ : St)], by rw [List.length_append, <- HK.out]; rfl, by omega, httl, e1, e2, by go_num, ?_, HB4, ?_⟩
        ·show World.ownsRow _ _ _ _ _ _ _
         rw [List.flatMap_append (xs := done ++ _)]
         exact HO4.out
        ·show _ = _
         rw [hR.out, HFK.out]
       case measure => simp [intOf]; omega
    ·have hE0 : Hid ((aZ (calAt n o) (af n (aX nx o d).toNat) (ax (ap n o) t)) = (D1, D2)) := by show _ = _; rw [HNX.out]; exact HD.out
     have hR : Hid (bA n nx d 19 o0 t0 = (D2, [])) := by
      show _ = _
      rw [HW.out, pq n nx d _ o t hod hno (by rw [hE0.out]; exact hE), hE0.out]
      unfold m9
      rw [if_neg hE]
     refine wp_region_any (by kernel_rfl) ?_
     change wpAny _ _ _ _ _ _ _ (World.drew _)
     refine wpAny_take (i := 0) (v := ?_) rfl (by kernel_rfl) (by kernel_rfl) (by kernel_rfl) (fun _ _ _ h => h) (Or.inl ⟨by rfl, ?_⟩) ?_
     rotate_left
     ·(intro w; go_simp; (try with_reducible rfl))
     refine wpAny_take (i := 1) (v := ?_) rfl (by kernel_rfl) (by kernel_rfl) (by kernel_rfl) (fun _ _ _ h => h) (Or.inl ⟨by rfl, ?_⟩) ?_
     rotate_left
     ·(intro w; go_simp; (try with_reducible rfl))
     refine wpAny_take (i := 2) (v := ?_) rfl (by kernel_rfl) (by kernel_rfl) (by kernel_rfl) (fun _ _ _ h => h) (Or.inl ⟨by rfl, ?_⟩) ?_
     rotate_left
     ·(intro w; go_simp; (try with_reducible rfl))
     refine wpAny_take (i := 3) (v := ?_) rfl (by kernel_rfl) (by kernel_rfl) (by kernel_rfl) (fun _ _ _ h => h) (Or.inl ⟨by rfl, ?_⟩) ?_
     rotate_left
     ·(intro w; go_simp; (try with_reducible rfl))
     refine wpAny_take (i := 4) (v := ?_) rfl (by kernel_rfl) (by kernel_rfl) (by kernel_rfl) (fun _ _ _ h => h) (Or.inl ⟨by rfl, ?_⟩) ?_
     rotate_left
     ·(intro w; go_simp; (try with_reducible rfl))
     refine wpAny_take (i := 5) (v := ?_) rfl (by kernel_rfl) (by kernel_rfl) (by kernel_rfl) (fun _ _ _ h => h) (Or.inl ⟨by rfl, ?_⟩) ?_
     rotate_left
     ·(intro w; go_simp; (try with_reducible rfl))
     refine wpAny_take (i := 6) (v := ?_) rfl (by kernel_rfl) (by kernel_rfl) (by kernel_rfl) (fun _ _ _ h => h) (Or.inl ⟨by rfl, ?_⟩) ?_
     rotate_left
     ·(intro w; go_simp; (try with_reducible rfl))
     refine wpAny_take (i := 8) (v := ?_) rfl (by kernel_rfl) (by kernel_rfl) (by kernel_rfl) (fun _ _ _ h => h) (Or.inl ⟨by rfl, ?_⟩) ?_
     rotate_left
     ·(intro w; go_simp; (try with_reducible rfl))
     refine wpAny_take (i := 9) (v := ?_) rfl (by kernel_rfl) (by kernel_rfl) (by kernel_rfl) (fun _ _ _ h => h) (Or.inl ⟨by rfl, ?_⟩) ?_
     rotate_left
     ·(intro w; go_simp; (try with_reducible rfl))
     refine wpAny_take (i := 10) (v := ?_) rfl (by kernel_rfl) (by kernel_rfl) (by kernel_rfl) (fun _ _ _ h => h) (Or.inl ⟨by rfl, ?_⟩) ?_
     rotate_left
     ·(intro w; go_simp; (try with_reducible rfl))
     refine wpAny_ready (rs := [7, 11]) (by kernel_rfl) (by simp) ?_
     refine AllReady.cons rfl (fun K hK => ?ra) (AllReady.cons rfl (fun K hK => ?rb) AllReady.nil)
     case ra =>
      go_simp
      refine hK _ _ ?_
      clear hK K
      refine wpAny_ready (rs := [11]) (by kernel_rfl) (by simp) ?_
      refine AllReady.cons rfl (fun K hK => ?_) AllReady.nil
      go_simp
      refine hK _ _ ?_
      clear hK K
      refine wpAny_ready (rs := [12]) (by kernel_rfl) (by simp) ?_
      refine AllReady.cons rfl (fun K hK => ?_) AllReady.nil
      go_simp
      refine (gR N n o (ap n o) t _ (HN1.out.drewN 1) (bd hoo) HPM.out.1.1 HPM.out.1.2 HPM.out.2.1 HPM.out.2.2 (by omega) (by omega)).mono ?_
      rintro e w2 ⟨rfl, hb⟩
      have HC1 := aB (bdr hb); clear hb
      go_wp2_with fail
      refine wpAny_ready (rs := [13]) (by kernel_rfl) (by simp) ?_
      refine AllReady.cons rfl (fun K hK => ?_) AllReady.nil
      go_simp
      refine (iD N n li o ci _ _ _ (ax (ap n o) t) _ (HN1.out.below HC1.out) HARG.out.1 HARG.out.2.1 (bd hoo) HARG.out.2.2.1 HARG.out.2.2.2.1 HARG.out.2.2.2.2.1 HARG.out.2.2.2.2.2.1 HARG.out.2.2.2.2.2.2).mono ?_
      rintro e w3 ⟨rfl, hb⟩
      rw [HD.out]
      have HC2 := aB (bt HC1.out hb); clear hb
      go_wp2_with fail
      refine wpAny_take (i := 14) (v := ?_) rfl (by kernel_rfl) (by kernel_rfl) (by kernel_rfl) (fun _ _ _ h => h) (Or.inl ⟨by rfl, ?_⟩) ?_
      rotate_left
      ·(intro w; go_simp; (try with_reducible rfl))
      refine wpAny_take (i := 15) (v := ?_) rfl (by kernel_rfl) (by kernel_rfl) (by kernel_rfl) (fun _ _ _ h => h) (Or.inl ⟨by rfl, ?_⟩) ?_
      rotate_left
      ·(intro w; go_simp; (try with_reducible rfl))
      refine wpAny_ready (rs := [16]) (by kernel_rfl) (by simp) ?_
      refine AllReady.cons rfl (fun K hK => ?_) AllReady.nil
      go_simp
      refine (ku D1 D2 _ hE).mono ?_
      rintro e w4 ⟨rfl, rfl⟩
      go_simp
      refine ⟨rfl, ?_⟩
      unfold ou
      rw [hR.out]
      exact ⟨bt HB1.out HC2.out, .inr ⟨hE, rfl⟩⟩
     case rb =>
      go_simp
      refine hK _ _ ?_
      clear hK K
      refine wpAny_ready (rs := [7]) (by kernel_rfl) (by simp) ?_
      refine AllReady.cons rfl (fun K hK => ?_) AllReady.nil
      go_simp
      refine hK _ _ ?_
      clear hK K
      refine wpAny_ready (rs := [12]) (by kernel_rfl) (by simp) ?_
      refine AllReady.cons rfl (fun K hK => ?_) AllReady.nil
      go_simp
      refine (gR N n o (ap n o) t _ (HN1.out.drewN 1) (bd hoo) HPM.out.1.1 HPM.out.1.2 HPM.out.2.1 HPM.out.2.2 (by omega) (by omega)).mono ?_
      rintro e w2 ⟨rfl, hb⟩
      have HC1 := aB (bdr hb); clear hb
      go_wp2_with fail
      refine wpAny_ready (rs := [13]) (by kernel_rfl) (by simp) ?_
      refine AllReady.cons rfl (fun K hK => ?_) AllReady.nil
      go_simp
      refine (iD N n li o ci _ _ _ (ax (ap n o) t) _ (HN1.out.below HC1.out) HARG.out.1 HARG.out.2.1 (bd hoo) HARG.out.2.2.1 HARG.out.2.2.2.1 HARG.out.2.2.2.2.1 HARG.out.2.2.2.2.2.1 HARG.out.2.2.2.2.2.2).mono ?_
      rintro e w3 ⟨rfl, hb⟩
      rw [HD.out]
      have HC2 := aB (bt HC1.out hb); clear hb
      go_wp2_with fail
      refine wpAny_take (i := 14) (v := ?_) rfl (by kernel_rfl) (by kernel_rfl) (by kernel_rfl) (fun _ _ _ h => h) (Or.inl ⟨by rfl, ?_⟩) ?_
      rotate_left
      ·(intro w; go_simp; (try with_reducible rfl))
      refine wpAny_take (i := 15) (v := ?_) rfl (by kernel_rfl) (by kernel_rfl) (by kernel_rfl) (fun _ _ _ h => h) (Or.inl ⟨by rfl, ?_⟩) ?_
      rotate_left
      ·(intro w; go_simp; (try with_reducible rfl))
      refine wpAny_ready (rs := [16]) (by kernel_rfl) (by simp) ?_
      refine AllReady.cons rfl (fun K hK => ?_) AllReady.nil
      go_simp
      refine (ku D1 D2 _ hE).mono ?_
      rintro e w4 ⟨rfl, rfl⟩
      go_simp
      refine ⟨rfl, ?_⟩
      unfold ou
      rw [hR.out]
      exact ⟨bt HB1.out HC2.out, .inr ⟨hE, rfl⟩⟩
theorem jn (q r : Nat) (s y : Value) (x : Int) (older : List PanicEntry) (w : World) (hq : w.cell? (aV q 0) = some s) (hqf : w.frozen? (aV q 0) = false)
  (hr : w.cell? (aV r 0) = some y) (hrf : w.frozen? (aV r 0) = false) (hqr : r ≠ q) :
  CallsD Tryz.prog 52 #[.pointer (some (aV q 0)), .pointer (some (aV r 0))] (.panicking ({ v := .iface 38 (iV x), recovered := false } :: older)) w fun e u' w' =>
   e = .returned (.tuple #[]) /\ u' = .panicking ({ v := .iface 38 (iV x), recovered := true } :: older) /\ w' = (w.setCell (aV q 0) (.slice none 0 0)).setCell (aV r 0) (iV x) := by
 have hc : (w.setCell (aV q 0) (.slice none 0 0)).cell? (aV r 0) = some y := by
  have hh := Below.heap_setCell w (aV q 0) (.slice none 0 0) r hqr
  simpa [World.cell?, hh] using hr
 have hf : (w.setCell (aV q 0) (.slice none 0 0)).frozen? (aV r 0) = false := by rw [World.frozen?_setCell]; exact hrf
 refine callsD_of_wpS Tryz.func52 rfl fun c₀ cs hu => ?_
 apply wpS_seq
 apply wpS_region
 simp [wpOpsS, go_sem, recoverD, hu, Tryz.ntmps52, Exit.thenS]
 refine wpS_of_wp ?_
 go_wp2_with fail
 refine (qs x _).mono ?_
 rintro e w1 ⟨rfl, rfl⟩
 go_wp2_with fail
 simp [bodyPostS, results, Tryz.results52]
theorem uT (q r : Nat) (w : World) :
  CallsD Tryz.prog 52 #[.pointer (some (aV q 0)), .pointer (some (aV r 0))] .returning w fun e u' w' => e = .returned (.tuple #[]) /\ u' = .returning /\ w' = w := by
 refine callsD_of_wpS Tryz.func52 rfl fun c₀ cs hu => ?_
 apply wpS_seq
 apply wpS_region
 simp [wpOpsS, go_sem, recoverD, hu, Tryz.ntmps52, Exit.thenS]
 refine wpS_of_wp ?_
 go_wp2_with fail
 cases c₀
 simp_all [bodyPostS, results, Tryz.results52]
theorem mL (N : Nat) (n : Net) (A : Option Addr) (c : Nat) (nx : List NsC) (w : World) (hN : br w N n) (hT : Tab w A nx) (hx : nx.length <= maxLen) (_hf1 : n.offs.length <= maxLen) (_hf2 : n.lins.length <= maxLen) :
  Calls Tryz.prog 58 #[.pointer (some (aV N 0)), .slice A nx.length c] w fun e w' => e = .returned (.bool (formB n nx)) /\ Below w.heap.size w w' := by
 have n3 : w.cell? (aV N 3) = some (.slice n.offA n.offs.length n.offC) := hN.box 3 _ rfl
 have n4 : w.cell? (aV N 4) = some (.slice n.linA n.lins.length n.linC) := hN.box 4 _ rfl
 have HN := aB hN; clear hN
 have HT := aB hT; clear hT
 unfold maxLen at hx _hf1 _hf2
 by_cases hlen : nx.length = n.offs.length
 ·have i1 : ((nx.length : Int) != (n.offs.length : Int)) = false := by simp; omega
  have i1' : ((nx.length : Int) == (n.offs.length : Int)) = true := by simp; omega
  have HLEN := aB hlen; clear hlen
  go_enter Tryz.func58, Tryz.ntmps58
  go_wp2
  go_loopw [19] (fun i wr => ∃ k q : Nat, k <= nx.length /\ i = iV k /\ wr = w.drewN q /\ Hid (∀ o r, o < k -> nx[o]? = some r -> r.ns.length = n.offs.length /\ ∀ l ∈ r.ns, dE n o l)) (fun i _ => nx.length + 1 - (intOf i).toNat)
  case atStart => exact ⟨0, 0, by omega, rfl, rfl, fun o r h => by omega⟩
  case round =>
   obtain ⟨k, q, hk, rfl, rfl, HS⟩ := hrel
   have j0 : (0 : Int) <= (k : Int) := by omega
   by_cases hlt : k < nx.length
   ·have j1 : (k : Int) < (nx.length : Int) := by omega
    have hr : nx[k]? = some nx[k] := aD _
    generalize nx[k] = r at hr
    obtain ⟨ns, rA, rc⟩ := r
    have HTr : Hid (Rd w rA (ns.map iV) /\ (∀ n ∈ ns, I64 n) /\ ns.length <= maxLen) := HT.out.row _ (aF hr)
    obtain ⟨nb, no, hnA, -, hnc⟩ := HT.out.rd.get (i := k) (by rw [List.length_map]; exact hlt)
    have x1 : w.cell? (aV nb (no + k)) = some (.slice rA ns.length rc) := hnc k _ (by rw [aS, hr]; rfl)
    have HNA := aB hnA
    have HRr := aB hr; clear hr hnc
    subst hnA
    have hrm := HTr.out.2.2
    unfold maxLen at hrm
    by_cases hrl : ns.length = n.offs.length
    ·have i2 : ((ns.length : Int) != (n.offs.length : Int)) = false := by simp; omega
     have i2' : ((ns.length : Int) == (n.offs.length : Int)) = true := by simp; omega
     have HRL := aB hrl; clear hrl
     go_wp2
     go_loopw [34] (fun i wr => ∃ m p : Nat, m <= ns.length /\ i = iV m /\ wr = w.drewN p /\ Hid (∀ j l, j < m -> ns[j]? = some l -> dE n k l)) (fun i _ => ns.length + 1 - (intOf i).toNat)
     case atStart => exact ⟨0, _, by omega, rfl, rfl, fun o r h => by omega⟩
     case round =>
      obtain ⟨m, p, hm, rfl, rfl, HQ⟩ := hrel
      have m0 : (0 : Int) <= (m : Int) := by omega
      by_cases hmt : m < ns.length
      ·have m1 : (m : Int) < (ns.length : Int) := by omega
       have hl : ns[m]? = some ns[m] := aD _
       obtain ⟨rb, ro, hrA, -, hrc⟩ := HTr.out.1.get (i := m) (by rw [List.length_map]; exact hmt)
       have x2 : w.cell? (aV rb (ro + m)) = some (iV ns[m]) := hrc m _ (by simp [hmt])
       generalize ns[m] = l at hl x2
       have HL := aB hl; clear hl hrc
       have HRA := aB hrA
       subst hrA
       have HNO : Hid (¬ dE n k l -> formB n nx = false) := fun hno => eE (fun h => hno ((((ep n nx).1 h).2 k _ HRr.out).2 l (aF HL.out)))
       have HYES : Hid (dE n k l -> ∀ j l, j < m + 1 -> ns[j]? = some l -> dE n k l) := fun hy j l' hj hl' => by
        rcases Nat.lt_or_ge j m with h | h
        ·exact HQ.out j l' h hl'
        ·obtain rfl : j = m := by omega
         rw [HL.out] at hl'
         cases hl'
         exact hy
       by_cases hm1 : l = -1
       ·subst hm1
        go_wp2
        go_roundw
        case rel => exact ⟨m + 1, _, by omega, by go_num, rfl, HYES.out (.inl rfl)⟩
        case measure => simp [intOf]; omega
       ·have hm2 : (l != -1) = true := by simpa using hm1
        have hm3 : (l == -1) = false := by simpa using hm1
        have HM1 := aB hm1; clear hm1
        by_cases hin : 0 <= l /\ l < (n.lins.length : Int)
        ·obtain ⟨hp, hq⟩ := hin
         obtain ⟨li, rfl⟩ := aN hp
         have hq' : li < n.lins.length := by omega
         obtain ⟨-, lb, lo, hlA, -, -, hlc⟩ := ay bT HN.out.net.lins (bC hq') (by omega)
         have y1 : w.cell? (aV lb (lo + li * 6 + 1)) = some (iV (af n li).frm) := hlc 1 _ rfl
         clear hlc hq'
         rw [hlA] at n4
         have HB : Hid ((decide (0 <= (li : Int)) && decide ((li : Int) < (n.lins.length : Int))) = true) := by show _ = _; simp [hq]
         by_cases hfr : (af n li).frm = (k : Int)
         ·have f1 : ((af n li).frm != (k : Int)) = false := by simpa using hfr
          have f2 : ((af n li).frm == (k : Int)) = true := by simpa using hfr
          have HF := aB hfr; clear hfr
          go_wp2_with fail
          refine (iy _ _ _).mono ?_
          rintro e w2 ⟨rfl, rfl⟩
          rw [HB.out]
          go_wp2
          go_roundw
          case rel => exact ⟨m + 1, _, by omega, by go_num, rfl, HYES.out (.inr ⟨by omega, by omega, HF.out⟩)⟩
          case measure => simp [intOf]; omega
         ·have f1 : ((af n li).frm != (k : Int)) = true := by simpa using hfr
          have f2 : ((af n li).frm == (k : Int)) = false := by simpa using hfr
          have HR : Hid (formB n nx = false) := HNO.out (fun h => by
           rcases h with h | ⟨-, -, h⟩
           ·exact HM1.out h
           ·exact hfr h)
          clear hfr
          go_wp2_with fail
          refine (iy _ _ _).mono ?_
          rintro e w2 ⟨rfl, rfl⟩
          rw [HB.out]
          go_wp2
          go_ret
          exact ⟨ah HR.out.symm, ai (aJ _ _) _⟩
        ·have HB : Hid ((decide (0 <= l) && decide (l < (n.lins.length : Int))) = false) := by
          show _ = _
          rw [Bool.eq_false_iff]
          intro h
          simp at h
          exact hin ⟨h.1, h.2⟩
         have HR : Hid (formB n nx = false) := HNO.out (fun h => by
          rcases h with h | ⟨h1, h2, -⟩
          ·exact HM1.out h
          ·exact hin ⟨h1, h2⟩)
         clear hin
         go_wp2_with fail
         refine (iy _ _ _).mono ?_
         rintro e w2 ⟨rfl, rfl⟩
         rw [HB.out]
         go_wp2
         go_ret
         exact ⟨ah HR.out.symm, ai (aJ _ _) _⟩
      ·have m1 : ¬ (m : Int) < (ns.length : Int) := by omega
       have HK1 : Hid (∀ o r, o < k + 1 -> nx[o]? = some r -> r.ns.length = n.offs.length /\ ∀ l ∈ r.ns, dE n o l) := fun o r' ho hr' => by
        rcases Nat.lt_or_ge o k with h | h
        ·exact HS.out o r' h hr'
        ·obtain rfl : o = k := by omega
         rw [HRr.out] at hr'
         cases hr'
         refine ⟨HRL.out, fun l hl => ?_⟩
         obtain ⟨j, hj, hjl⟩ := List.mem_iff_getElem.1 hl
         have hj2 : j < ns.length := hj
         exact HQ.out j l (by omega) (by rw [aD hj, hjl])
       go_wp2
       go_roundw
       case rel => exact ⟨k + 1, _, by omega, by go_num, rfl, HK1.out⟩
       case measure => simp [intOf]; omega
    ·have i2 : ((ns.length : Int) != (n.offs.length : Int)) = true := by simp; omega
     have i2' : ((ns.length : Int) == (n.offs.length : Int)) = false := by simp; omega
     have HR : Hid (formB n nx = false) := eE (fun h => hrl (((ep n nx).1 h).2 k _ HRr.out).1)
     clear hrl
     go_wp2
     go_ret
     exact ⟨ah HR.out.symm, ai (aJ _ _) _⟩
   ·have j1 : ¬ (k : Int) < (nx.length : Int) := by omega
    have HR : Hid (formB n nx = true) := et.2 ((ep n nx).2 ⟨HLEN.out, fun o r hr => HS.out o r (by have := (aE.1 hr).1; omega) hr⟩)
    go_wp2
    go_ret
    exact ⟨ah HR.out.symm, ai (aJ _ _) _⟩
 ·have i1 : ((nx.length : Int) != (n.offs.length : Int)) = true := by simp; omega
  have i1' : ((nx.length : Int) == (n.offs.length : Int)) = false := by simp; omega
  have HR : Hid (formB n nx = false) := eE (fun h => hlen h.1)
  clear hlen
  go_enter Tryz.func58, Tryz.ntmps58
  go_wp2
  go_ret
  exact ⟨ah HR.out.symm, aJ _ _⟩
def Wd2 (w W : World) (s y : Value) : Prop :=
 Below w.heap.size w W /\ W.heap[w.heap.size + 1]? = some (.cells #[s] 45 (0, 0)) /\ W.heap[w.heap.size + 1 + 1]? = some (.cells #[y] 38 (0, 0))
theorem Wd2.new (w : World) (n : Net) : Wd2 w (((w.alloc (ae n)).alloc (.cells #[.slice none 0 0] 45)).alloc (.cells #[iV 0] 38)) (.slice none 0 0) (iV 0) := by
 refine ⟨(((aJ _ w).alloc (aH _) _).alloc (by simp) _).alloc (by simp; omega) _, ?_, ?_⟩
 ·refine (aK _ _ _ (by simp)).trans ?_
  have := aC (w.alloc (ae n)) (.cells #[.slice none 0 0] 45)
  rwa [aT] at this
 ·have := aC ((w.alloc (ae n)).alloc (.cells #[.slice none 0 0] 45)) (.cells #[iV 0] 38)
  rwa [aT, aT] at this
theorem Wd2.below {w W W' : World} {s y : Value} (h : Wd2 w W s y) (hb : Below W.heap.size W W') : Wd2 w W' s y :=
 ⟨bt h.1 hb, (hb.block _ (aa h.2.1)).trans h.2.1, (hb.block _ (aa h.2.2)).trans h.2.2⟩
theorem Wd2.set1 {w W : World} {s y : Value} (h : Wd2 w W s y) (z : Value) : Wd2 w (W.setCell (aV (w.heap.size + 1) 0) z) z y :=
 ⟨h.1.setCell (by simp) _, bE h.2.1 0 z, bU h.2.2 (by omega) _ _⟩
theorem Wd2.set2 {w W : World} {s y : Value} (h : Wd2 w W s y) (z : Value) : Wd2 w (W.setCell (aV (w.heap.size + 1 + 1) 0) z) s z :=
 ⟨h.1.setCell (by simp; omega) _, bU h.2.1 (by omega) _ _, bE h.2.2 0 z⟩
theorem Wd2.res {w W : World} {s y : Value} (h : Wd2 w W s y) (tmps : Array Value) (h2 : tmps.getD 10 undef = .pointer (some (aV (w.heap.size + 1) 0))) (h3 : tmps.getD 11 undef = .pointer (some (aV (w.heap.size + 1 + 1) 0))) :
  (results Tryz.f23 tmps).run Tryz.prog W = .ok (.tuple #[s, y]) W := by
 have e1 : (loadVar 45 (aV (w.heap.size + 1) 0)).run Tryz.prog W = .ok s W := by
  have := cell_of_row W _ 0 _ _ _ h.2.1
  simp [loadVar, go_sem, this]
 have e2 : (loadVar 38 (aV (w.heap.size + 1 + 1) 0)).run Tryz.prog W = .ok y W := by
  have := cell_of_row W _ 0 _ _ _ h.2.2
  simp [loadVar, go_sem, this]
 have h2' : tmps[10]?.getD undef = .pointer (some (aV (w.heap.size + 1) 0)) := by simpa using h2
 have h3' : tmps[11]?.getD undef = .pointer (some (aV (w.heap.size + 1 + 1) 0)) := by simpa using h3
 simp [results, Tryz.results23, asAddr, h2', h3', e1, e2]
def iG (w : World) (r : Int × List St) (e : Ending) (w' : World) : Prop :=
 Below w.heap.size w w' /\ ∃ A c, e = .returned (.tuple #[.slice A r.2.length c, iV r.1]) /\ Rd w' A (r.2.flatMap bO)
theorem iG.bad {w W : World} (x : Int) {s y : Value} (h : Wd2 w W s y) : iG w (x, []) (.returned (.tuple #[.slice none 0 0, iV x])) W := ⟨h.1, none, 0, rfl, Rd.nil _ _⟩
open Classical in
noncomputable def wayTop (n : Net) (nx : List NsC) (o d t : Int) : Int × List St :=
 if inB o n.offs.length = true /\ inB d n.offs.length = true /\ tOk t = true /\ bM n /\ bi n nx then bA n nx d.toNat 19 o.toNat t else (1, [])
theorem way_any (n : Net) (A : Option Addr) (c : Nat) (nx : List NsC) (o d t : Int) (w : World) (hn : bj w n) (hT : Tab w A nx) (hx : nx.length <= maxLen) (hk : KW w) :
  Calls Tryz.prog 23 #[bB n, .slice A nx.length c, iV o, iV d, iV t] w (iG w (wayTop n nx o d t)) := by
 have hmf : ∀ (fn : Fn) (first cap : Array Value) (w : World), (Instr.makeFunc fn first cap).run Tryz.prog w = .ok (.func fn first cap) w := fun _ _ _ _ => rfl
 have HD := aB (Wd2.new w n)
 have hx0 : (((w.alloc (ae n)).alloc (.cells #[.slice none 0 0] 45)).alloc (.cells #[iV 0] 38)).heap[w.heap.size]? = some (ae n) := (aK _ _ _ (by simp; omega)).trans ((aK _ _ _ (by simp)).trans (aC _ _))
 have HNP : Hid (br (((w.alloc (ae n)).alloc (.cells #[.slice none 0 0] 45)).alloc (.cells #[iV 0] 38)) w.heap.size n) := ⟨fun i v hv => (aA _ hx0).trans hv, hn.below HD.out.1⟩
 have HT := aB (hT.below HD.out.1)
 have HK := aB (hk.below HD.out.1)
 have hl := hn.lens.2.2.2.1
 have HLL := aB hn.lens
 have HX := aB hx
 unfold maxLen at hl
 have n3 : (((w.alloc (ae n)).alloc (.cells #[.slice none 0 0] 45)).alloc (.cells #[iV 0] 38)).cell? (aV w.heap.size 3) = some (.slice n.offA n.offs.length n.offC) := HNP.out.box 3 _ rfl
 have hbad : ¬ (inB o n.offs.length = true /\ inB d n.offs.length = true /\ tOk t = true /\ bM n /\ bi n nx) -> wayTop n nx o d t = (1, []) := fun h => if_neg h
 have HBAD := aB hbad; clear hbad
 clear hn hT hk hx0 hx
 cases h1 : inB o n.offs.length
 case false =>
  have H1 := aB h1; clear h1
  go_enter_defers Tryz.func23, Tryz.ntmps23
  go_wp2_with fail
  refine (cS _ _ _).mono ?_
  rintro e w' ⟨rfl, rfl⟩
  rw [H1.out]
  go_wp2_with fail
  refine (fW _).mono ?_
  rintro e w' ⟨rfl, rfl⟩
  refine leaves_cons (f := 52) (args := #[.pointer (some (aV (w.heap.size + 1) 0)), .pointer (some (aV (w.heap.size + 1 + 1) 0))]) (by simp) (by simp [go_sem]) ?_
  refine (jn (w.heap.size + 1) (w.heap.size + 1 + 1) _ _ 1 _ _ (aA 0 HD.out.2.1) (ac HD.out.2.1 0) (aA 0 HD.out.2.2) (ac HD.out.2.2 0) (by omega)).mono ?_
  rintro e u' w'' ⟨rfl, rfl, rfl⟩
  exact ⟨_, ((HD.out.set1 (.slice none 0 0)).set2 (iV 1)).res _ rfl rfl, by rw [HBAD.out (by intro h; rw [H1.out] at h; cases h.1)]; exact iG.bad 1 ((HD.out.set1 (.slice none 0 0)).set2 (iV 1))⟩
 case true =>
 have H1 := aB h1; clear h1
 cases h2 : inB d n.offs.length
 case false =>
  have H2 := aB h2; clear h2
  go_enter_defers Tryz.func23, Tryz.ntmps23
  go_wp2_with fail
  refine (cS _ _ _).mono ?_
  rintro e w' ⟨rfl, rfl⟩
  rw [H1.out]
  go_wp2_with fail
  refine (cS _ _ _).mono ?_
  rintro e w' ⟨rfl, rfl⟩
  rw [H2.out]
  go_wp2_with fail
  refine (fW _).mono ?_
  rintro e w' ⟨rfl, rfl⟩
  refine leaves_cons (f := 52) (args := #[.pointer (some (aV (w.heap.size + 1) 0)), .pointer (some (aV (w.heap.size + 1 + 1) 0))]) (by simp) (by simp [go_sem]) ?_
  refine (jn (w.heap.size + 1) (w.heap.size + 1 + 1) _ _ 1 _ _ (aA 0 HD.out.2.1) (ac HD.out.2.1 0) (aA 0 HD.out.2.2) (ac HD.out.2.2 0) (by omega)).mono ?_
  rintro e u' w'' ⟨rfl, rfl, rfl⟩
  exact ⟨_, ((HD.out.set1 (.slice none 0 0)).set2 (iV 1)).res _ rfl rfl, by rw [HBAD.out (by intro h; rw [H2.out] at h; cases h.2.1)]; exact iG.bad 1 ((HD.out.set1 (.slice none 0 0)).set2 (iV 1))⟩
 case true =>
 have H2 := aB h2; clear h2
 go_enter_defers Tryz.func23, Tryz.ntmps23
 go_wp2_with fail
 refine (cS _ _ _).mono ?_
 rintro e w' ⟨rfl, rfl⟩
 rw [H1.out]
 go_wp2_with fail
 refine (cS _ _ _).mono ?_
 rintro e w' ⟨rfl, rfl⟩
 rw [H2.out]
 go_wp2_with fail
 refine (gp _ _).mono ?_
 rintro e w' ⟨rfl, rfl⟩
 cases h3 : tOk t
 case false =>
  have H3 := aB h3; clear h3
  go_wp2_with fail
  refine (fW _).mono ?_
  rintro e w' ⟨rfl, rfl⟩
  refine leaves_cons (f := 52) (args := #[.pointer (some (aV (w.heap.size + 1) 0)), .pointer (some (aV (w.heap.size + 1 + 1) 0))]) (by simp) (by simp [go_sem]) ?_
  refine (jn (w.heap.size + 1) (w.heap.size + 1 + 1) _ _ 1 _ _ (aA 0 HD.out.2.1) (ac HD.out.2.1 0) (aA 0 HD.out.2.2) (ac HD.out.2.2 0) (by omega)).mono ?_
  rintro e u' w'' ⟨rfl, rfl, rfl⟩
  exact ⟨_, ((HD.out.set1 (.slice none 0 0)).set2 (iV 1)).res _ rfl rfl, by rw [HBAD.out (by intro h; rw [H3.out] at h; cases h.2.2.1)]; exact iG.bad 1 ((HD.out.set1 (.slice none 0 0)).set2 (iV 1))⟩
 case true =>
 have H3 := aB h3; clear h3
 go_wp2_with fail
 refine (fq _).mono ?_
 rintro e w' ⟨rfl, rfl⟩
 by_cases h4 : bM n
 case neg =>
  have H4 := aB h4; clear h4
  go_wp2_with fail
  refine (kh _ n _ HNP.out HK.out H4.out).mono ?_
  rintro e w1 ⟨rfl, hb⟩
  have HD1 := aB (HD.out.below hb); clear hb
  go_wp2_with fail
  refine (fW _).mono ?_
  rintro e w' ⟨rfl, rfl⟩
  refine leaves_cons (f := 52) (args := #[.pointer (some (aV (w.heap.size + 1) 0)), .pointer (some (aV (w.heap.size + 1 + 1) 0))]) (by simp) (by simp [go_sem]) ?_
  refine (jn (w.heap.size + 1) (w.heap.size + 1 + 1) _ _ 1 _ _ (aA 0 HD1.out.2.1) (ac HD1.out.2.1 0) (aA 0 HD1.out.2.2) (ac HD1.out.2.2 0) (by omega)).mono ?_
  rintro e u' w'' ⟨rfl, rfl, rfl⟩
  exact ⟨_, ((HD1.out.set1 (.slice none 0 0)).set2 (iV 1)).res _ rfl rfl, by rw [HBAD.out (by intro h; exact H4.out h.2.2.2.1)]; exact iG.bad 1 ((HD1.out.set1 (.slice none 0 0)).set2 (iV 1))⟩
 case pos =>
 have H4 := aB h4; clear h4
 go_wp2_with fail
 refine (fR _ n _ HNP.out HK.out H4.out).mono ?_
 rintro e w1 ⟨rfl, hb⟩
 have HD1 := aB (HD.out.below hb)
 have HNP1 := aB (HNP.out.below hb)
 have HT1 := aB (HT.out.below hb)
 clear hb HD HNP HT n3
 go_wp2_with fail
 refine (mL _ n A c nx _ HNP1.out HT1.out HX.out HLL.out.2.2.2.1 HLL.out.2.2.2.2.1).mono ?_
 rintro e w2 ⟨rfl, hb⟩
 have HD2 := aB (HD1.out.below hb)
 have HNP2 := aB (HNP1.out.below hb)
 have HT2 := aB (HT1.out.below hb)
 clear hb HD1 HNP1 HT1
 cases h5 : formB n nx
 case false =>
  have H5 := aB h5; clear h5
  go_wp2_with fail
  refine (fW _).mono ?_
  rintro e w' ⟨rfl, rfl⟩
  refine leaves_cons (f := 52) (args := #[.pointer (some (aV (w.heap.size + 1) 0)), .pointer (some (aV (w.heap.size + 1 + 1) 0))]) (by simp) (by simp [go_sem]) ?_
  refine (jn (w.heap.size + 1) (w.heap.size + 1 + 1) _ _ 1 _ _ (aA 0 HD2.out.2.1) (ac HD2.out.2.1 0) (aA 0 HD2.out.2.2) (ac HD2.out.2.2 0) (by omega)).mono ?_
  rintro e u' w'' ⟨rfl, rfl, rfl⟩
  exact ⟨_, ((HD2.out.set1 (.slice none 0 0)).set2 (iV 1)).res _ rfl rfl, by rw [HBAD.out (by intro h; rw [et.2 h.2.2.2.2] at H5; cases H5.out)]; exact iG.bad 1 ((HD2.out.set1 (.slice none 0 0)).set2 (iV 1))⟩
 case true =>
 have H5 := aB (et.1 h5); clear h5
 have HR : Hid (wayTop n nx o d t = bA n nx d.toNat 19 o.toNat t) := if_pos ⟨H1.out, H2.out, H3.out, H4.out, H5.out⟩
 have ho := fy.1 H1.out
 have hd := fy.1 H2.out
 have ht := H3.out
 unfold tOk at ht
 simp only [Bool.and_eq_true, decide_eq_true_eq] at ht
 obtain ⟨o', rfl⟩ := aN ho.1
 obtain ⟨d', rfl⟩ := aN hd.1
 obtain ⟨ht1, ht2⟩ := ht
 have hoo : o' < n.offs.length := by omega
 have hdd : d' < n.offs.length := by omega
 clear ho hd
 go_wp2_with fail
 refine (fq _).mono ?_
 rintro e w' ⟨rfl, rfl⟩
 go_wp2_with fail
 refine (pt _ n A c nx o' d' t _ HNP2.out HT2.out H4.out.1.good H5.out hoo hdd ht1 (by omega)).mono ?_
 rintro e w3 ⟨hb, hr⟩
 have hr' : bA n nx d' 19 o' t = wayTop n nx o' d' t := HR.out.symm
 rw [hr'] at hr
 have HD3 := aB (HD2.out.below hb)
 have HSZ : Hid (w.heap.size + 1 + 1 < w2.heap.size) := aa HD2.out.2.2
 clear hb HD2 HNP2 HT2 hr'
 rcases hr with ⟨h0, A3, c3, rfl, ho3⟩ | ⟨hne, rfl⟩
 case inr =>
  have HNE := aB hne; clear hne
  refine leaves_cons (f := 52) (args := #[.pointer (some (aV (w.heap.size + 1) 0)), .pointer (some (aV (w.heap.size + 1 + 1) 0))]) (by simp) (by simp [go_sem]) ?_
  refine (jn (w.heap.size + 1) (w.heap.size + 1 + 1) _ _ _ _ _ (aA 0 HD3.out.2.1) (ac HD3.out.2.1 0) (aA 0 HD3.out.2.2) (ac HD3.out.2.2 0) (by omega)).mono ?_
  rintro e u' w'' ⟨rfl, rfl, rfl⟩
  exact ⟨_, ((HD3.out.set1 (.slice none 0 0)).set2 (iV (wayTop n nx o' d' t).1)).res _ rfl rfl, by
   have h1 : wayTop n nx o' d' t = ((wayTop n nx o' d' t).1, []) := by
    have := pm n nx d' 19 o' t
    rw [show bA n nx d' 19 o' t = wayTop n nx o' d' t from HR.out.symm] at this
    rw [<- this HNE.out]
   have h2 := iG.bad (wayTop n nx o' d' t).1 ((HD3.out.set1 (.slice none 0 0)).set2 (iV (wayTop n nx o' d' t).1))
   rw [<- h1] at h2
   exact h2⟩
 case inl =>
  have H0 := aB h0; clear h0
  have HO3 := aB ho3; clear ho3
  have hc1 : w3.cell? (aV (w.heap.size + 1) 0) = some (.slice none 0 0) := aA 0 HD3.out.2.1
  have hf1 : w3.frozen? (aV (w.heap.size + 1) 0) = false := ac HD3.out.2.1 0
  have hc2 : (w3.setCell (aV (w.heap.size + 1) 0) (.slice A3 (wayTop n nx o' d' t).2.length c3)).cell? (aV (w.heap.size + 1 + 1) 0) = some (iV 0) := aA 0 (HD3.out.set1 _).2.2
  have hf2 : (w3.setCell (aV (w.heap.size + 1) 0) (.slice A3 (wayTop n nx o' d' t).2.length c3)).frozen? (aV (w.heap.size + 1 + 1) 0) = false := ac (HD3.out.set1 _).2.2 0
  go_wp2_with fail
  refine leaves_cons (f := 52) (args := #[.pointer (some (aV (w.heap.size + 1) 0)), .pointer (some (aV (w.heap.size + 1 + 1) 0))]) (by simp) (by simp [go_sem]) ?_
  refine (uT (w.heap.size + 1) (w.heap.size + 1 + 1) _).mono ?_
  rintro e u' w'' ⟨rfl, rfl, rfl⟩
  have hD4 := (HD3.out.set1 (.slice A3 (wayTop n nx o' d' t).2.length c3)).set2 (iV 0)
  refine ⟨_, hD4.res _ rfl rfl, hD4.1, A3, c3, by rw [H0.out], ?_⟩
  have hlt := HO3.out.lt
  exact cE ((HO3.out.kept (js _ _ _ _) (.inr (fun e => by have := (hlt _ e).1; have := HSZ.out; omega))).kept (js _ _ _ _) (.inr (fun e => by have := (hlt _ e).1; have := HSZ.out; omega)))
open Classical in
noncomputable def cutoffTop (n : Net) (k o t : Int) : Int × Int := if inB k n.clss.length = true /\ inB o n.offs.length = true /\ tOk t = true /\ bM n then ak (calAt n o.toNat) (aw n k.toNat).cut t else (0, 1)
theorem m8 (n : Net) (k o t : Int) (w : World) (hn : bj w n) (hk : KW w) :
  Calls Tryz.prog 26 #[bB n, iV k, iV o, iV t] w fun e w' => e = .returned (.tuple #[iV (cutoffTop n k o t).1, iV (cutoffTop n k o t).2]) /\ Below w.heap.size w w' := by
 have hb0 := ba w (ae n)
 have hx0 := aC w (ae n)
 have HNP : Hid (br (w.alloc (ae n)) w.heap.size n) := ⟨fun i v hv => (aA _ hx0).trans hv, hn.below hb0⟩
 have HK := aB (hk.below hb0)
 have hl := hn.lens.2.2.2.1
 have hl5 := hn.lens.2.2.2.2.2
 unfold maxLen at hl hl5
 have n3 : (w.alloc (ae n)).cell? (aV w.heap.size 3) = some (.slice n.offA n.offs.length n.offC) := HNP.out.box 3 _ rfl
 have n5 : (w.alloc (ae n)).cell? (aV w.heap.size 5) = some (.slice n.clsA n.clss.length n.clsC) := HNP.out.box 5 _ rfl
 have hbad : ¬ (inB k n.clss.length = true /\ inB o n.offs.length = true /\ tOk t = true /\ bM n) -> cutoffTop n k o t = (0, 1) := fun h => if_neg h
 have HBAD := aB hbad; clear hbad
 have HB0 := aB hb0
 clear hn hk hx0 hb0
 go_enter Tryz.func26, Tryz.ntmps26
 go_upto_region 1 with fail
 change Code.wp _ _ _ _ (w.alloc (ae n))
 generalize (w.alloc (ae n)) = W at *
 go_wp2_with fail
 refine (cS _ _ _).mono ?_
 rintro e w' ⟨rfl, rfl⟩
 cases h0 : inB k n.clss.length
 case false =>
  have H0 := aB h0; clear h0
  go_wp2_with fail
  go_ret2
  rw [HBAD.out (by intro h; rw [H0.out] at h; cases h.1)]
  exact ⟨rfl, HB0.out⟩
 case true =>
 have H0 := aB h0; clear h0
 go_wp2_with fail
 refine (cS _ _ _).mono ?_
 rintro e w' ⟨rfl, rfl⟩
 cases h1 : inB o n.offs.length
 case false =>
  have H1 := aB h1; clear h1
  go_wp2_with fail
  go_ret2
  rw [HBAD.out (by intro h; rw [H1.out] at h; cases h.2.1)]
  exact ⟨rfl, HB0.out⟩
 case true =>
 have H1 := aB h1; clear h1
 go_wp2_with fail
 refine (gp _ _).mono ?_
 rintro e w' ⟨rfl, rfl⟩
 cases h3 : tOk t
 case false =>
  have H3 := aB h3; clear h3
  go_wp2_with fail
  go_ret2
  rw [HBAD.out (by intro h; rw [H3.out] at h; cases h.2.2.1)]
  exact ⟨rfl, HB0.out⟩
 case true =>
 have H3 := aB h3; clear h3
 by_cases h4 : bM n
 case neg =>
  have H4 := aB h4; clear h4
  go_wp2_with fail
  refine (kh _ n _ HNP.out HK.out H4.out).mono ?_
  rintro e w1 ⟨rfl, hb⟩
  have HB1 := aB (bt HB0.out hb); clear hb
  go_wp2_with fail
  go_ret2
  rw [HBAD.out (by intro h; exact H4.out h.2.2.2)]
  exact ⟨rfl, HB1.out⟩
 case pos =>
 have H4 := aB h4; clear h4
 have HR : Hid (cutoffTop n k o t = ak (calAt n o.toNat) (aw n k.toNat).cut t) := if_pos ⟨H0.out, H1.out, H3.out, H4.out⟩
 have hkk := fy.1 H0.out
 have ho := fy.1 H1.out
 have ht := H3.out
 unfold tOk at ht
 simp only [Bool.and_eq_true, decide_eq_true_eq] at ht
 obtain ⟨k', rfl⟩ := aN hkk.1
 obtain ⟨o', rfl⟩ := aN ho.1
 obtain ⟨ht1, ht2⟩ := ht
 have hoo : o' < n.offs.length := by omega
 have hkc : k' < n.clss.length := by omega
 obtain ⟨ci, hci⟩ := H4.out.1.good.calAt hoo
 have HCI := aB hci; clear hci
 obtain ⟨-, hp⟩ := H4.out.1.good.off _ (aF (bd hoo))
 have HP := aB hp; clear hp
 have HC := aB (H4.out.1.good.cls _ (aF (bX hkc)))
 clear hkk ho
 go_wp2_with fail
 refine (fR _ n _ HNP.out HK.out H4.out).mono ?_
 rintro e w1 ⟨rfl, hb⟩
 have HB1 := aB (bt HB0.out hb)
 have HNP1 := aB (HNP.out.below hb); clear hb n3 n5
 obtain ⟨-, lb, lo, hlA, hlb, -, hlc⟩ := ay dh HNP1.out.net.clss (bX hkc) (by omega)
 have n5 : w1.cell? (aV w.heap.size 5) = some (.slice n.clsA n.clss.length n.clsC) := HNP1.out.box 5 _ rfl
 have l1 : w1.cell? (aV lb (lo + k' * 3 + 1)) = some (iV (aw n k').cut) := hlc 1 _ rfl
 rw [hlA] at n5
 have HSw : Hid (∀ w', Below w1.heap.size w1 w' -> w'.cell? (aV w.heap.size 5) = some (.slice (some (aV lb lo)) n.clss.length n.clsC) /\ w'.cell? (aV lb (lo + k' * 3 + 1)) = some (iV (aw n k').cut)) := fun w' hb =>
  ⟨(hb.cell (p := (aV w.heap.size 5)) HNP1.out.lt).trans n5, (hb.cell (p := (aV lb _)) hlb).trans l1⟩
 have j1 : (0 : Int) <= (k' : Int) := by omega
 have j2 : (k' : Int) < (n.clss.length : Int) := by omega
 clear hlc hlA hlb
 go_wp2_with fail
 go_region_held3 (fun w' => w'.cell? (aV w.heap.size 5) = some (.slice (some (aV lb lo)) n.clss.length n.clsC) /\ w'.cell? (aV lb (lo + k' * 3 + 1)) = some (iV (aw n k').cut)) (first | (with_reducible exact HSw.out _ (al (aJ _ _))) | (with_reducible exact HSw.out _ HB1a.out) | (with_reducible exact HSw.out _ HB1b.out)) (first
   | (go_at_call 68; refine (eG w.heap.size n o' ci _ _ _ (HNP1.out.drewN 1) (bd hoo) HCI.out.1 HCI.out.2.1).mono ?_; rintro e w1a ⟨rfl, hb⟩; have HB1a := aB (bdr hb); clear hb)
   | (go_at_call 67; refine (hO _ _ t _ ((HNP1.out.net.cal _ (aF HCI.out.2.1)).below HB1a.out) HCI.out.2.2 HC.out.1 HC.out.2.1 (by omega) (by omega)).mono ?_; rintro e w2 ⟨rfl, hb⟩; have HB1b := aB (bt HB1a.out hb); clear hb)
   | fail)
 have HB2 := aB (bt HB1.out HB1b.out)
 go_wp2_with fail
 go_ret2
 rw [HR.out]
 exact ⟨rfl, HB2.out⟩
theorem nJ {n : Net} {nx : List NsC} (h : bi n nx) {o d : Nat} (ho : o < n.offs.length) (hd : d < n.offs.length) : aX nx o d = -1 ∨ 0 <= aX nx o d /\ aX nx o d < n.lins.length /\ (af n (aX nx o d).toNat).frm = o := by
 obtain ⟨r, hr, hrl, hrf⟩ := h.2 o ho
 have hdl : d < r.ns.length := by rw [hrl]; exact hd
 have hl : r.ns[d] = aX nx o d := by unfold aX; simp [List.getD, hr, hdl]
 have := hrf _ (List.getElem_mem hdl)
 rwa [hl] at this
theorem rM {c : Cal} {L : Lin} {t x : Int} (h1 : 0 <= L.at_) (h2 : L.at_ < 1440) (h : aZ c L t = (x, 0)) : t <= x /\ x <= t + 90000 /\ 0 <= t /\ t <= 2000000 := by
 unfold aZ at h
 by_cases hok : tOk t = true
 ·rw [if_pos hok] at h
  have h3 := cf h1 h2 h
  unfold tOk at hok
  simp only [Bool.and_eq_true, decide_eq_true_eq] at hok
  omega
 ·rw [if_neg hok] at h
  have := (Prod.mk.inj h).2
  omega
theorem pp {n : Net} {nx : List NsC} {d : Nat} (hG : cY n) (hF : bi n nx) (hd : d < n.offs.length) : ∀ (f o : Nat) (t : Int), o < n.offs.length -> 0 <= t -> t <= 3000000 -> (bA n nx d f o t).1 = 0 ->
  ∃ l s, (bA n nx d f o t).2 = l ++ [s] /\ 0 <= s.arrive /\ s.arrive <= 3000000 /\ s.office = (d : Int) /\ s.depart = -1 /\ s.line = -1
 | 0, o, t, ho, h1, h2, h => by
  by_cases hod : o = d
  ·subst hod
   rw [fO]
   exact ⟨[], _, rfl, h1, h2, rfl, rfl, rfl⟩
  ·unfold bA at h
   rw [if_neg hod] at h
   split at h
   ·cases h
   ·dsimp only at h; split at h
    ·cases h
    ·rename_i h3; exact absurd h h3
 | f + 1, o, t, ho, h1, h2, h => by
  by_cases hod : o = d
  ·subst hod
   rw [fO]
   exact ⟨[], _, rfl, h1, h2, rfl, rfl, rfl⟩
  ·by_cases hl : aX nx o d = -1
   ·rw [lN n nx d _ o t hod hl] at h; cases h
   ·obtain ⟨g1, g2, g3⟩ := (nJ hF ho hd).resolve_left hl
    obtain ⟨li, hli⟩ : ∃ li : Nat, (aX nx o d).toNat = li := ⟨_, rfl⟩
    have hlil : li < n.lins.length := by omega
    obtain ⟨-, ⟨q1, q2⟩, a1, a2, v1, v2⟩ := hG.lin _ (aF (bC hlil))
    by_cases he : (aZ (calAt n o) (af n (aX nx o d).toNat) (ax (ap n o) t)).2 = 0
    ·have e1 : aZ (calAt n o) (af n li) (ax (ap n o) t) = ((aZ (calAt n o) (af n li) (ax (ap n o) t)).1, 0) := by rw [<- hli, <- he]
     have hb := rM a1 a2 e1
     unfold bA at h ⊢
     rw [if_neg hod, if_neg hl] at h ⊢
     dsimp only at h ⊢
     rw [if_pos he] at h ⊢
     rw [hli] at h ⊢
     generalize (aZ (calAt n o) (af n li) (ax (ap n o) t)).1 = x at *
     have ih := pp hG hF hd f (af n li).to.toNat (x + (af n li).travel) (by omega) (by omega) (by omega)
     generalize bA n nx d f (af n li).to.toNat (x + (af n li).travel) = r at *
     by_cases hr : r.1 = 0
     ·obtain ⟨l, s, i1, i2⟩ := ih hr
      rw [if_pos hr]
      exact ⟨⟨o, t, x, aX nx o d⟩ :: l, s, by rw [i1]; rfl, i2⟩
     ·rw [if_neg hr] at h
      exact absurd h hr
    ·rw [pq n nx d _ o t hod hl he] at h
     exact absurd h he
theorem pn (n : Net) (nx : List NsC) (d : Nat) : ∀ (f o : Nat) (t : Int), (bA n nx d f o t).2.length <= f + 1
 | 0, o, t => by
  unfold bA
  split
  ·simp
  ·split
   ·simp
   ·dsimp only; split <;> simp
 | f + 1, o, t => by
  unfold bA
  split
  ·simp
  ·split
   ·simp
   ·dsimp only
    split
    ·split
     ·have := pn n nx d f (af n (aX nx o d).toNat).to.toNat ((aZ (calAt n o) (af n (aX nx o d).toNat) (ax (ap n o) t)).1 + (af n (aX nx o d).toNat).travel)
      simp only [List.length_cons]; omega
     ·simp
    ·simp
def ee (n : Net) (nx : List NsC) (k o d : Nat) (cut : Int) : Option Int :=
 if (bA n nx d 19 o cut).1 ≠ 0 then none else
 if (cq (calAt n d) (ap n d) (aw n k) (aj (bA n nx d 19 o cut).2).arrive).2 ≠ 0 then none else
 let x := eR (calAt n d) (bc (calAt n d) cut) (bc (calAt n d) (cq (calAt n d) (ap n d) (aw n k) (aj (bA n nx d 19 o cut).2).arrive).1)
 if x < 0 then none else some x
def NeedR (w : World) (r : Option Int) (e : Ending) (w' : World) : Prop :=
 Below w.heap.size w w' /\ ((∃ x, r = some x /\ e = .returned (iV x)) ∨ (r = none /\ ∃ y, e = sO y))
theorem vS (l : List St) (s : St) : aj (l ++ [s]) = s := by simp [aj, List.getLastD_eq_getLast?]
theorem qn (N : Nat) (n : Net) (A : Option Addr) (c : Nat) (nx : List NsC) (k o d : Nat) (t : Int) (w : World) (hN : br w N n) (hT : Tab w A nx) (hG : cY n) (hF : bi n nx) (hk : k < n.clss.length) (ho : o < n.offs.length) (hd : d < n.offs.length) (ht1 : 0 <= t) (ht2 : t <= 3000000) :
  Calls Tryz.prog 138 #[.pointer (some (aV N 0)), .slice A nx.length c, iV k, iV o, iV d, iV t] w (NeedR w (ee n nx k o d t)) := by
 have HN := aB hN; clear hN
 have HT := aB hT; clear hT
 have HG := aB hG; clear hG
 have HF := aB hF; clear hF
 have HE := aB (pp HG.out HF.out hd 19 o t ho ht1 ht2)
 obtain ⟨ci, hci⟩ := HG.out.calAt hd
 have HCI := aB hci; clear hci
 obtain ⟨-, hp⟩ := HG.out.off _ (aF (bd hd))
 have HP := aB hp; clear hp
 have HC := aB (HG.out.cls _ (aF (bX hk)))
 have HNR : Hid (ee n nx k o d t = ee n nx k o d t) := rfl
 go_enter Tryz.func138, Tryz.ntmps138
 go_wp2_with fail
 refine (pt N n A c nx o d t _ HN.out HT.out HG.out HF.out ho hd ht1 ht2).mono ?_
 rintro e w1 ⟨hb, hr⟩
 have HB1 := aB hb
 have HN1 := aB (HN.out.below hb)
 clear hb HN HT
 rcases hr with ⟨h0, A1, c1, rfl, ho1⟩ | ⟨hne, rfl⟩
 case inr =>
  have HR : Hid (ee n nx k o d t = none) := by show _ = _; unfold ee; rw [if_pos hne]
  refine ⟨rfl, HB1.out, .inr ⟨HR.out, _, rfl⟩⟩
 case inl =>
  obtain ⟨l, s, hls, hs1, hs2, -, -, -⟩ := HE.out h0
  have HLS := aB hls
  have hlen : (bA n nx d 19 o t).2.length = l.length + 1 := by rw [hls]; simp
  rw [hlen] at ho1 ⊢
  rw [hls] at ho1
  have hz : l.length + 1 <= 20 := by have := pn n nx d 19 o t; omega
  obtain ⟨g, rfl, hg1, hg2, hfz, hcell⟩ := gC ho1 (by omega)
  have a1 : w1.cell? (aV g (l.length * 4 + 1)) = some (iV s.arrive) := by
   have h1 := g7 bO 4 cH (l ++ [s]) l.length 1 (by simp) (by omega)
   refine hcell _ _ (h1.trans ?_)
   have : (l ++ [s])[l.length]'(by simp) = s := by simp
   rw [this]
   rfl
  clear hcell hfz ho1 hls hlen
  go_wp2_with fail
  have hrd := gU HP.out.1 HP.out.2.1 HP.out.2.2.1 HP.out.2.2.2
  refine (kE N n k d ci _ _ _ s.arrive _ HN1.out (bX hk) (bd hd) HCI.out.1 HCI.out.2.1 HCI.out.2.2 HC.out.2.2.1 HC.out.2.2.2 HP.out.1 HP.out.2.1 HP.out.2.2.1 HP.out.2.2.2 (by omega) (by omega)).mono ?_
  rintro e w2 ⟨rfl, hb⟩
  have HB2 := aB (bt HB1.out hb)
  have HN2 := aB (HN1.out.below hb)
  have HLAST : Hid ((aj (bA n nx d 19 o t).2).arrive = s.arrive) := by show _ = _; rw [HLS.out, vS]
  have HH0 := aB h0
  clear hb HB1 HN1 a1 h0
  obtain ⟨D1, D2, hD⟩ : ∃ D1 D2, cq (calAt n d) (ap n d) (aw n k) s.arrive = (D1, D2) := ⟨_, _, rfl⟩
  rw [hD]
  have HD := aB hD; clear hD
  by_cases hD2 : D2 = 0
  case neg =>
   have HR : Hid (ee n nx k o d t = none) := by
    show _ = _
    unfold ee
    rw [if_neg (by rw [HH0.out]; simp), HLAST.out, HD.out, if_pos hD2]
   go_wp2_with fail
   refine (ku D1 D2 _ hD2).mono ?_
   rintro e w3 ⟨rfl, rfl⟩
   go_wp2_with fail
   exact ⟨rfl, HB2.out, .inr ⟨HR.out, _, rfl⟩⟩
  case pos =>
   subst hD2
   have hin : ax (ap n d) s.arrive <= D1 /\ D1 <= ax (ap n d) s.arrive + 90000 := cf HC.out.2.2.1 HC.out.2.2.2 HD.out
   have hD1 : 0 <= D1 /\ D1 <= 3100000 := by unfold ax at hin; omega
   obtain ⟨hd1, hd2⟩ := hD1
   have hzz := cV HCI.out.2.2
   obtain ⟨z1, z2, -⟩ := hzz
   have hda : dr (bc (calAt n d) t) = true := by unfold dr bc; simp; omega
   have hdb : dr (bc (calAt n d) D1) = true := by unfold dr bc; simp; omega
   have HDA := aB hda; clear hda
   have HDB := aB hdb; clear hdb
   clear hin hrd
   go_wp2_with fail
   refine (ks D1 _).mono ?_
   rintro e w3 ⟨rfl, rfl⟩
   go_wp2_with fail
   refine (eG N n d ci _ _ _ HN2.out (bd hd) HCI.out.1 HCI.out.2.1).mono ?_
   rintro e w4 ⟨rfl, hb⟩
   have HB4 := aB (bt HB2.out hb)
   have HN4 := aB (HN2.out.below hb)
   clear hb HB2 HN2
   have HCC := aB (HN4.out.net.cal _ (aF HCI.out.2.1))
   generalize hcal : calAt n d = C at *
   have HCAL := aB hcal; clear hcal
   have hx := aC w4 (.cells #[iV C.zone, .slice C.wA C.week.length C.wc, .slice C.hA C.hol.length C.hc] 110)
   have HX := aB hx; clear hx
   have HB5 := aB (bt HB4.out (ba w4 (.cells #[iV C.zone, .slice C.wA C.week.length C.wc, .slice C.hA C.hol.length C.hc] 110)))
   have HC5 := aB (HCC.out.below (ba w4 (.cells #[iV C.zone, .slice C.wA C.week.length C.wc, .slice C.hA C.hol.length C.hc] 110)))
   have k0 : (w4.alloc (.cells #[iV C.zone, .slice C.wA C.week.length C.wc, .slice C.hA C.hol.length C.hc] 110)).cell? (aV w4.heap.size 0) = some (iV C.zone) := aA 0 HX.out
   have k1 : (w4.alloc (.cells #[iV C.zone, .slice C.wA C.week.length C.wc, .slice C.hA C.hol.length C.hc] 110)).cell? (aV w4.heap.size 1) = some (.slice C.wA C.week.length C.wc) := aA 1 HX.out
   have k2 : (w4.alloc (.cells #[iV C.zone, .slice C.wA C.week.length C.wc, .slice C.hA C.hol.length C.hc] 110)).cell? (aV w4.heap.size 2) = some (.slice C.hA C.hol.length C.hc) := aA 2 HX.out
   go_wp2_with fail
   generalize (w4.alloc (.cells #[iV C.zone, .slice C.wA C.week.length C.wc, .slice C.hA C.hol.length C.hc] 110)) = W5 at *
   generalize w4.heap.size = X at *
   refine (gV C t _ HC5.out HCI.out.2.2 (by omega) (by omega)).mono ?_
   rintro e w6 ⟨rfl, hb⟩
   have HB6 := aB (bt HB5.out hb)
   have HC6 := aB (HC5.out.below hb)
   have HX6 := aB ((hb.block _ (aa HX.out)).trans HX.out)
   clear hb HB5 HC5 HX k0 k1 k2
   have k0 : w6.cell? (aV X 0) = some (iV C.zone) := aA 0 HX6.out
   have k1 : w6.cell? (aV X 1) = some (.slice C.wA C.week.length C.wc) := aA 1 HX6.out
   have k2 : w6.cell? (aV X 2) = some (.slice C.hA C.hol.length C.hc) := aA 2 HX6.out
   go_wp2_with fail
   refine (gV C D1 _ HC6.out HCI.out.2.2 (by omega) (by omega)).mono ?_
   rintro e w7 ⟨rfl, hb⟩
   have HB7 := aB (bt HB6.out hb)
   have HC7 := aB (HC6.out.below hb)
   have HX7 := aB ((hb.block _ (aa HX6.out)).trans HX6.out)
   clear hb HB6 HC6 HX6 k0 k1 k2
   have k0 : w7.cell? (aV X 0) = some (iV C.zone) := aA 0 HX7.out
   have k1 : w7.cell? (aV X 1) = some (.slice C.wA C.week.length C.wc) := aA 1 HX7.out
   have k2 : w7.cell? (aV X 2) = some (.slice C.hA C.hol.length C.hc) := aA 2 HX7.out
   go_wp2_with fail
   refine (uy C _ _ _ HC7.out HCI.out.2.2 HDA.out HDB.out).mono ?_
   rintro e w8 ⟨rfl, hb⟩
   have HB8 := aB (bt HB7.out hb)
   clear hb HB7 HC7 HX7 k0 k1 k2
   have HCN : Hid (ee n nx k o d t = if eR C (bc C t) (bc C D1) < 0 then none else some (eR C (bc C t) (bc C D1))) := by
    show _ = _
    unfold ee
    rw [if_neg (by rw [HH0.out]; simp), HLAST.out, HCAL.out, HD.out, if_neg (by simp)]
   generalize eR C (bc C t) (bc C D1) = x at *
   by_cases hx : 0 <= x
   ·have HR : Hid (ee n nx k o d t = some x) := by show _ = _; rw [HCN.out, if_neg (by omega)]
    go_wp2_with fail
    refine (fq _).mono ?_
    rintro e w9 ⟨rfl, rfl⟩
    go_wp2_with fail
    go_ret
    exact ⟨HB8.out, .inl ⟨x, HR.out, rfl⟩⟩
   ·have HR : Hid (ee n nx k o d t = none) := by show _ = _; rw [HCN.out, if_pos (by omega)]
    have hx3 : decide (0 <= x) = false := by simpa using hx
    clear hx
    go_wp2_with fail
    refine (fW _).mono ?_
    rintro e w9 ⟨rfl, rfl⟩
    go_wp2_with fail
    exact ⟨rfl, HB8.out, .inr ⟨HR.out, _, rfl⟩⟩
def SeqP (P : Program) (gf : Nat) (lb : Array Value) (m : Nat) (encs : Nat -> Array Value) (B : Nat -> Prop) (W0 : World) : Prop :=
 ∀ (l : Nat) (J : Nat -> World -> Prop) (Jp : List PanicEntry -> World -> Prop), (∀ k W W', J k W -> Below W.heap.size W W' -> J k W') ->
  (∀ k W1, k < m -> J k W1 -> YieldAt Fence.wide 7 P l (encs k) W1 fun e W' => (e = .returned (.bool true) /\ J (k + 1) W' /\ W1.heap.size <= W'.heap.size /\ ie B W1 W') ∨ (∃ ch, e = .panicked ch /\ Jp ch W')) ->
  ∀ W, ie B W0 W -> W0.heap.size <= W.heap.size -> J 0 W ->
  CallsIn Fence.wide 8 P gf (#[.func (.yield l) #[] #[]] ++ lb) W fun e W' => ((∃ v, e = .returned v) /\ J m W') ∨ (∃ ch, e = .panicked ch /\ Jp ch W')
def uJ (I : World -> Prop) (Ip : List PanicEntry -> World -> Prop) (B : Nat -> Prop) (W : World) : Exit -> Act -> World -> Prop
 | .normal, _, W' => W.heap.size <= W'.heap.size /\ ie B W W' /\ I W'
 | .panic ch, a, W' => a.defers = [] /\ ie B W W' /\ Ip ch W'
 | _, _, _ => False
theorem wp_seqP {P : Program} {f0 : FuncId} {fn0 : Func} {g : Operand} {ps : Array Tmp} {assign body : Code} {Q : Exit -> Act -> World -> Prop} {a : Act} {w : World} (hf0 : P.funcs[f0]? = some fn0)
  {gf : Nat} {lb : Array Value} (hg : a.eval g = .func (.func gf) #[] lb) (eg : ∀ args w, (callFunc gf args).run P w = .ok (.enter gf args) w)
  {m : Nat} {encs : Nat -> Array Value} {B : Nat -> Prop} (hseq : SeqP P gf lb m encs B w) (hB : ∀ b, B b -> b < w.heap.size) (hps : ∀ k, (encs k).size = ps.size)
  (I : Nat -> World -> Prop) (Ip : List PanicEntry -> World -> Prop)
  (hI : ∀ k W W' r, I k W -> W.grownBy W' (some r) -> (r = w.heap.size ∨ r = w.heap.size + 1) -> I k W')
  (hI2 : ∀ k W W', I k W -> Below W.heap.size W W' -> I k W') (h0 : I 0 w) (a₁ : Nat -> Act)
  (hassign : ∀ (l k : Nat) (W : World) (K : Act -> World -> Prop), K (a₁ k) W ->
   assign.wpIn (Fence.wide.inRound l) 7 P (Exit.then K (fun _ _ _ => False)) { tmps := (ps.zip (encs k)).foldl (fun t (p, v) => t.setIfInBounds p v) a.tmps, defers := [] } W)
  (hbody : ∀ (l k : Nat) (W : World), k < m -> I k W -> w.heap.size + 2 <= W.heap.size -> body.wpIn (Fence.wide.inRound l) 7 P (uJ (I (k + 1)) Ip (fun b => b = w.heap.size ∨ b = w.heap.size + 1 ∨ B b) W) (a₁ k) W)
  (hpan : ∀ ch W, Ip ch W -> W.heap[w.heap.size]? = some (.deferred (some [])) -> Q (.panic ch) { a with defers := { target := .collected w.heap.size, args := #[] } :: a.defers } W)
  (hdone : ∀ (W : World), I m W -> W.heap[w.heap.size]? = some (.deferred (some [])) -> Q .normal { a with defers := { target := .collected w.heap.size, args := #[] } :: a.defers } W) :
  j9 f0 P (Code.rangeFunc g ps assign body) Q a w := by
 refine fX ?_
 obtain ⟨lp, hlp⟩ : ∃ lp : LoopState -> Option Code -> Loop, lp = fun st pe => { state := st, pending := pe, fn := f0, tmps := a.tmps, params := ps, assign, body, defers := w.heap.size } := ⟨_, rfl⟩
 obtain ⟨W1, hW1⟩ : ∃ W1, (w.alloc (.deferred (some []))).alloc (.loop (lp .ready none)) = W1 := ⟨_, rfl⟩
 have hL1 : W1.heap[w.heap.size + 1]? = some (.loop (lp .ready none)) := by
  rw [<- hW1]; have := World.alloc_heap_new (w.alloc (.deferred (some []))) (.loop (lp .ready none)); rwa [aT] at this
 have hK1 : W1.heap[w.heap.size]? = some (.deferred (some [])) := by
  rw [<- hW1]; exact (aK _ _ _ (by simp)).trans (World.alloc_heap_new w _)
 have hg1 : Below w.heap.size w W1 := by
  rw [<- hW1]
  exact ((aJ _ w).alloc (aH _) _).alloc (by simp) _
 have hI1 : I 0 W1 := hI2 0 w W1 h0 hg1
 have hKB : ie B w W1 := fun b hb => hg1.block b (hB b hb)
 refine ⟨w.heap.size + 1, [{ target := .collected w.heap.size, args := #[] }], W1, { target := .fn (.func gf) lb, args := #[.func (.yield (w.heap.size + 1)) #[] #[]] }, W1, gf,
  #[.func (.yield (w.heap.size + 1)) #[] #[]] ++ lb, W1, ?_, ?_, ?_, ?_⟩
 ·rw [<- hW1, hlp]; exact run_enterLoop_outer _ _ _ _ _
 ·simp only [resolve, hg]
  simp [go_sem]
 ·simp [invoke, go_sem, eg]
 ·refine (hseq (w.heap.size + 1) (fun k W => I k W /\ W.heap[w.heap.size + 1]? = some (.loop (lp .ready none)) /\ W.heap[w.heap.size]? = some (.deferred (some []))) (fun ch W => Ip ch W /\ W.heap[w.heap.size]? = some (.deferred (some []))) ?_ ?_ W1 hKB hg1.size ⟨hI1, hL1, hK1⟩).mono ?_
  ·rintro k W W' ⟨h1, h2, h3⟩ hgr
   exact ⟨hI2 k W W' h1 hgr, (hgr.block _ (Array.getElem?_eq_some_iff.1 h2).1).trans h2, (hgr.block _ (Array.getElem?_eq_some_iff.1 h3).1).trans h3⟩
  ·rintro k W hk ⟨hi, hl, hd⟩
   have hlt : w.heap.size + 1 < W.heap.size := (Array.getElem?_eq_some_iff.1 hl).1
   have hy := run_yield (P := P) (args := encs k) hl (by rw [hlp]; exact hps k)
   rw [hlp] at hy
   refine ⟨f0, _, assign, body, hy, tF trivial (hassign _ k W _ ⟨_, run_beginRound hl (by rw [hlp]), ?_⟩)⟩
   have hgb : W.grownBy (W.putObj (w.heap.size + 1) (.loop { lp .ready none with state := .busy })) (some (w.heap.size + 1)) := grownBy_putObj' _ _ _
   have hl2 : (W.putObj (w.heap.size + 1) (.loop { lp .ready none with state := .busy })).heap[w.heap.size + 1]? = some (.loop { lp .ready none with state := .busy }) := World.putObj_heap_same hlt
   have hd2 : (W.putObj (w.heap.size + 1) (.loop { lp .ready none with state := .busy })).heap[w.heap.size]? = some (.deferred (some [])) := (World.putObj_heap_other (by omega)).trans hd
   refine wpIn_mono (hbody _ k _ hk (hI k W _ _ hi hgb (.inr rfl)) (by rw [World.putObj_size]; omega)) ?_
   rintro e a3 W3 hp
   cases e with
   | normal =>
    obtain ⟨hs3, hk3, hi3⟩ := hp
    have hl3 := (hk3 (w.heap.size + 1) (.inr (.inl rfl))).trans hl2
    have hd3 := (hk3 w.heap.size (.inl rfl)).trans hd2
    have hend := run_endRound (P := P) none hl3
    refine ⟨_, _, hend, .inl ⟨rfl, ⟨hI _ W3 _ _ hi3 (grownBy_putObj' _ _ _) (.inr rfl), ?_, (World.putObj_heap_other (by omega)).trans hd3⟩, ?_, ?_⟩⟩
    ·rw [World.putObj_heap_same (Array.getElem?_eq_some_iff.1 hl3).1, hlp]; rfl
    ·rw [World.putObj_size]; rw [World.putObj_size] at hs3; exact hs3
    ·intro b hb
     have := hB b hb
     exact (World.putObj_heap_other (by omega)).trans ((hk3 b (.inr (.inr hb))).trans (World.putObj_heap_other (by omega)))
   | panic ch => exact ⟨hp.1, ⟨fn0, hf0⟩, .inr ⟨ch, rfl, hp.2.2, (hp.2.1 w.heap.size (.inl rfl)).trans hd2⟩⟩
   | ret => exact hp.elim
   | exit id => exact hp.elim
   | goto t => exact hp.elim
   | outgrown => exact hp.elim
  ·rintro e W2 (⟨⟨v, rfl⟩, hi, hl, hd⟩ | ⟨ch, rfl, h, hd⟩)
   ·refine ⟨none, _, by have := run_endLoop (P := P) hl (by rw [hlp]; simp); rw [hlp] at this; exact this, hdone _ (hI m W2 _ _ hi (grownBy_putObj' _ _ _) (.inr rfl)) ((World.putObj_heap_other (by omega)).trans hd)⟩
   ·exact hpan ch W2 h hd
section
attribute [local go_sem] Oper.semAt_some
def iJ (c : Cal) (m till : Int) : Nat -> Int -> List Int
 | 0, _ => []
 | f + 1, t => if (ak c m t).2 = 0 /\ (ak c m t).1 < till then (ak c m t).1 :: iJ c m till f ((ak c m t).1 + 1) else []
theorem jZ (c : Cal) {m : Int} (h1 : 0 <= m) (h2 : m < 1440) (till : Int) : ∀ (f g : Nat) (t : Int), (till - t).toNat <= f -> (till - t).toNat <= g -> iJ c m till f t = iJ c m till g t
 | 0, 0, _, _, _ => rfl
 | 0, g + 1, t, hf, _ => by
  unfold iJ
  rw [if_neg]
  rintro ⟨h3, h4⟩
  have := cf h1 h2 (x := (ak c m t).1) (by rw [<- h3])
  omega
 | f + 1, 0, t, _, hg => by
  conv => rhs; unfold iJ
  unfold iJ
  rw [if_neg]
  rintro ⟨h3, h4⟩
  have := cf h1 h2 (x := (ak c m t).1) (by rw [<- h3])
  omega
 | f + 1, g + 1, t, hf, hg => by
  unfold iJ
  by_cases h : (ak c m t).2 = 0 /\ (ak c m t).1 < till
  ·rw [if_pos h, if_pos h]
   have h5 := cf h1 h2 (c := c) (t := t) (x := (ak c m t).1) (by rw [<- h.1])
   rw [jZ c h1 h2 till f g _ (by omega) (by omega)]
  ·rw [if_neg h, if_neg h]
def jc (c : Cal) (m till t : Int) : List Int := iJ c m till (till - t).toNat t
theorem fz (c : Cal) {m : Int} (h1 : 0 <= m) (h2 : m < 1440) (till t : Int) : jc c m till t = if (ak c m t).2 = 0 /\ (ak c m t).1 < till then (ak c m t).1 :: jc c m till ((ak c m t).1 + 1) else [] := by
 have h3 : jc c m till t = iJ c m till ((till - t).toNat + 1) t := jZ c h1 h2 till _ _ _ (aH _) (by omega)
 rw [h3, iJ]
 by_cases h : (ak c m t).2 = 0 /\ (ak c m t).1 < till
 ·rw [if_pos h, if_pos h]
  have h5 := cf h1 h2 (c := c) (t := t) (x := (ak c m t).1) (by rw [<- h.1])
  rw [jZ c h1 h2 till _ (till - ((ak c m t).1 + 1)).toNat _ (by omega) (aH _)]
  rfl
 ·rw [if_neg h, if_neg h]
theorem br.heap {w W : World} {N : Nat} {n : Net} (h : br w N n) (hs : w.heap.size <= W.heap.size) (hk : ∀ b < w.heap.size, W.heap[b]? = w.heap[b]?) : br W N n := by
 have g := h.below (w' := { w with heap := W.heap }) ⟨rfl, rfl, rfl, hs, fun i hi => hk i hi⟩
 exact ⟨g.box, ⟨g.net.cals, g.net.cal, g.net.names, g.net.name, g.net.ops, g.net.op, g.net.offs, g.net.off, g.net.lins, g.net.lin, g.net.clss, g.net.cls, g.net.lens⟩⟩
structure CuS (w : World) (n : Net) (N P1 P2 P3 P4 P5 o k : Nat) (fr till : Int) : Prop where
 net : br w N n
 b1 : w.cell? (aV P1 0) = some (iV fr)
 b2 : w.cell? (aV P2 0) = some (.pointer (some (aV N 0)))
 b3 : w.cell? (aV P3 0) = some (iV o)
 b4 : w.cell? (aV P4 0) = some (iV k)
 b5 : w.cell? (aV P5 0) = some (iV till)
theorem CuS.below {w w' : World} {n : Net} {N P1 P2 P3 P4 P5 o k : Nat} {fr till : Int} (h : CuS w n N P1 P2 P3 P4 P5 o k fr till) (hb : Below w.heap.size w w') : CuS w' n N P1 P2 P3 P4 P5 o k fr till :=
 ⟨h.net.below hb, (hb.cell (p := (aV P1 0)) (aM w _ h.b1)).trans h.b1, (hb.cell (p := (aV P2 0)) (aM w _ h.b2)).trans h.b2, (hb.cell (p := (aV P3 0)) (aM w _ h.b3)).trans h.b3, (hb.cell (p := (aV P4 0)) (aM w _ h.b4)).trans h.b4, (hb.cell (p := (aV P5 0)) (aM w _ h.b5)).trans h.b5⟩
def cuB (w0 : World) (P1 P2 P3 P4 P5 : Nat) (b : Nat) : Prop := b < w0.heap.size ∨ b = P1 ∨ b = P2 ∨ b = P3 ∨ b = P4 ∨ b = P5
def jK (w0 w : World) : Prop := w0.heap.size <= w.heap.size /\ ∀ b < w0.heap.size, w.heap[b]? = w0.heap[b]?
theorem jK.below {w0 w w' : World} (h : jK w0 w) (hb : Below w.heap.size w w') : jK w0 w' := ⟨aG h.1 hb.size, fun b hb2 => (hb.block b (Nat.lt_of_lt_of_le hb2 h.1)).trans (h.2 b hb2)⟩
theorem jK.keep {w0 w w' : World} {P1 P2 P3 P4 P5 : Nat} (h : jK w0 w) (hz : w.heap.size <= w'.heap.size) (hk : ie (cuB w0 P1 P2 P3 P4 P5) w w') : jK w0 w' := ⟨aG h.1 hz, fun b hb => (hk b (.inl hb)).trans (h.2 b hb)⟩
theorem CuS.keep {w0 w w' : World} {n : Net} {N P1 P2 P3 P4 P5 o k : Nat} {fr till : Int} (hn : br w0 N n) (h0 : jK w0 w) (h : CuS w n N P1 P2 P3 P4 P5 o k fr till) (hz : w.heap.size <= w'.heap.size) (hk : ie (cuB w0 P1 P2 P3 P4 P5) w w') : CuS w' n N P1 P2 P3 P4 P5 o k fr till := by
 have hc : ∀ {b v}, cuB w0 P1 P2 P3 P4 P5 b -> w.cell? (aV b 0) = some v -> w'.cell? (aV b 0) = some v := fun {b v} hb hv => (World.cell?_of_block (a := (aV b 0)) (hk b hb)).trans hv
 have h1 := h0.keep hz hk
 exact ⟨hn.heap h1.1 h1.2, hc (by simp [cuB]) h.b1, hc (by simp [cuB]) h.b2, hc (by simp [cuB]) h.b3, hc (by simp [cuB]) h.b4, hc (by simp [cuB]) h.b5⟩
def encI (l : List Int) (k : Nat) : Array Value := #[iV (l.getD k 0)]
theorem wJ (w0 : World) (n : Net) (N P1 P2 P3 P4 P5 o k : Nat) (fr till : Int) (w : World) (hn : br w0 N n) (hb0 : jK w0 w) (hG : cY n) (hk : k < n.clss.length) (ho : o < n.offs.length) (h : CuS w n N P1 P2 P3 P4 P5 o k fr till) (hf : 0 <= fr) (hf2 : fr <= 3000000) (ht : till <= 3000000) :
  SeqP Tryz.prog 176 #[.pointer (some (aV P1 0)), .pointer (some (aV P2 0)), .pointer (some (aV P3 0)), .pointer (some (aV P4 0)), .pointer (some (aV P5 0))] (jc (calAt n o) (aw n k).cut till fr).length (encI (jc (calAt n o) (aw n k).cut till fr)) (cuB w0 P1 P2 P3 P4 P5) w := by
 intro l J Jp hJ hY W hK hz hJ0
 have HN := aB hn; clear hn
 have HS0 := aB (h.keep HN.out hb0 hz hK)
 have HZ0 := aB (hb0.keep hz hK)
 have HJ := aB hJ; clear hJ
 have HY := aB hY; clear hY
 obtain ⟨ci, hci⟩ := hG.calAt ho
 have HCI := aB hci; clear hci
 have HC := aB (hG.cls _ (aF (bX hk)))
 have HKC := aB (bX hk)
 clear hK hz hb0 h hG
 have hk0 : (0 : Int) <= (k : Int) := by omega
 have hk1 : (k : Int) < (n.clss.length : Int) := by omega
 refine callsIn_of_wp Tryz.func176 rfl trivial ?_ rfl
 simp only [Tryz.ntmps176, List.size_toArray, List.length_cons, List.length_nil, Nat.reduceAdd, Nat.reduceSub, Array.replicate_succ, Array.replicate_zero, List.push_toArray, List.append_toArray, List.nil_append, List.cons_append]
 have e1 := HS0.out.b1
 gi_wp2
 clear e1
 generalize hL : jc (calAt n o) (aw n k).cut till fr = L at *
 have HL := aB hL; clear hL
 gi_loopw [7] (fun i wr => ∃ (j : Nat) (t : Int), j <= L.length /\ 0 <= t /\ t <= 3100000 /\ i = iV t /\ J j wr /\ CuS wr n N P1 P2 P3 P4 P5 o k fr till /\ jc (calAt n o) (aw n k).cut till t = L.drop j /\ jK w0 wr) (fun i _ => (3200000 - intOf i).toNat)
 case atStart => exact ⟨0, fr, Nat.zero_le _, hf, by omega, rfl, hJ0, HS0.out, by rw [HL.out]; rfl, HZ0.out⟩
 case round =>
  obtain ⟨j, t, hj, ht1, ht2, rfl, hjj, hS, hcu, hz⟩ := hrel
  have HS := aB hS; clear hS
  have HJK := aB hjj; clear hjj
  have HCU := aB hcu; clear hcu
  have HZ := aB hz; clear hz
  obtain ⟨-, lb, lo, hlA, hlb, -, hlc⟩ := ay dh HS.out.net.net.clss HKC.out (by omega)
  have n5 : wr.cell? (aV N 5) = some (.slice n.clsA n.clss.length n.clsC) := HS.out.net.box 5 _ rfl
  have l1 : wr.cell? (aV lb (lo + k * 3 + 1)) = some (iV (aw n k).cut) := hlc 1 _ rfl
  rw [hlA] at n5
  have HSw : Hid (∀ w', Below wr.heap.size wr w' -> w'.cell? (aV P2 0) = some (.pointer (some (aV N 0))) /\ w'.cell? (aV P3 0) = some (iV o) /\ w'.cell? (aV P4 0) = some (iV k) /\ w'.cell? (aV N 5) = some (.slice (some (aV lb lo)) n.clss.length n.clsC) /\ w'.cell? (aV lb (lo + k * 3 + 1)) = some (iV (aw n k).cut)) := fun w' hb =>
   ⟨(HS.out.below hb).b2, (HS.out.below hb).b3, (HS.out.below hb).b4, (hb.cell (p := (aV N 5)) HS.out.net.lt).trans n5, (hb.cell (p := (aV lb _)) hlb).trans l1⟩
  clear hlc hlA hlb n5 l1
  refine wpIn_block ?_
  refine wpIn_seq ?_
  refine wpIn_wide.2 ?_
  go_region_held3 (fun w' => w'.cell? (aV P2 0) = some (.pointer (some (aV N 0))) /\ w'.cell? (aV P3 0) = some (iV o) /\ w'.cell? (aV P4 0) = some (iV k) /\ w'.cell? (aV N 5) = some (.slice (some (aV lb lo)) n.clss.length n.clsC) /\ w'.cell? (aV lb (lo + k * 3 + 1)) = some (iV (aw n k).cut)) (first | (with_reducible exact HSw.out _ (al (aJ _ _))) | (with_reducible exact HSw.out _ HB1a.out) | (with_reducible exact HSw.out _ HB1b.out)) (first
   | (go_at_call 68; refine (eG N n o ci _ _ _ (HS.out.net.drewN 1) (bd ho) HCI.out.1 HCI.out.2.1).mono ?_; rintro e w1a ⟨rfl, hb⟩; have HB1a := aB (bdr hb); clear hb)
   | (go_at_call 67; refine (hO _ _ t _ ((HS.out.net.net.cal _ (aF HCI.out.2.1)).below HB1a.out) HCI.out.2.2 HC.out.1 HC.out.2.1 (by omega) (by omega)).mono ?_; rintro e w2 ⟨rfl, hb⟩; have HB1b := aB (bt HB1a.out hb); clear hb)
   | fail)
  have HJ2 := aB (HJ.out j wr w2 HJK.out HB1b.out)
  have HS2 := aB (HS.out.below HB1b.out)
  have HZ2 := aB (HZ.out.below HB1b.out)
  have p5 := HS2.out.b5
  clear HS HJK HZ HSw HB1a HB1b
  have hce := fz (calAt n o) HC.out.1 HC.out.2.1 till t
  rw [HCU.out] at hce
  have HCE := aB hce; clear hce
  change Code.wpIn Fence.wide 8 _ _ _ _ _
  by_cases hF2 : (ak (calAt n o) (aw n k).cut t).2 = 0
  case neg =>
   have hnil : L.drop j = [] := by rw [HCE.out, if_neg (fun h => hF2 h.1)]
   have hjl : j = L.length := by
    have := congrArg List.length hnil
    simp at this
    omega
   have g1 : ((ak (calAt n o) (aw n k).cut t).2 != 0) = true := by simpa using hF2
   have g2 : ((ak (calAt n o) (aw n k).cut t).2 == 0) = false := by simpa using hF2
   subst hjl
   clear hnil hF2
   gi_wp2
   refine ⟨fun _ h => (by cases h), ?_⟩
   gi_wp2
   refine bodyPost_ret (results_none rfl _ _ _) rfl ?_
   exact .inl ⟨⟨_, rfl⟩, by rw [HL.out]; exact HJ2.out⟩
  case pos =>
   have hin := cf HC.out.1 HC.out.2.1 (c := calAt n o) (t := t) (x := (ak (calAt n o) (aw n k).cut t).1) (by rw [<- hF2])
   rw [hF2]
   have HF2 := aB hF2; clear hF2
   generalize hx : (ak (calAt n o) (aw n k).cut t).1 = x at *
   have HX := aB hx; clear hx
   by_cases hlt : x < till
   case neg =>
    have hnil : L.drop j = [] := by rw [HCE.out, if_neg (fun h => hlt h.2)]
    have hjl : j = L.length := by
     have := congrArg List.length hnil
     simp at this
     omega
    have g1 : till <= x := by omega
    subst hjl
    clear hnil hlt
    gi_wp2
    refine ⟨fun _ h => (by cases h), ?_⟩
    gi_wp2
    refine bodyPost_ret (results_none rfl _ _ _) rfl ?_
    exact .inl ⟨⟨_, rfl⟩, by rw [HL.out]; exact HJ2.out⟩
   case pos =>
    have hcons : L.drop j = x :: jc (calAt n o) (aw n k).cut till (x + 1) := by rw [HCE.out, if_pos ⟨HF2.out, hlt⟩]
    have hjl : j < L.length := by
     rcases Nat.lt_or_ge j L.length with h | h
     ·exact h
     ·rw [List.drop_eq_nil_of_le h] at hcons; cases hcons
    have hnext : jc (calAt n o) (aw n k).cut till (x + 1) = L.drop (j + 1) := by
     rw [<- List.tail_drop, hcons, List.tail_cons]
    have hget : encI L j = #[iV x] := by
     have h1 : L[j]? = some x := by
      have := congrArg (fun l => l[0]?) hcons
      simpa using this
     unfold encI
     simp [List.getD, h1]
    have HNX := aB hnext; clear hnext
    clear hcons
    obtain ⟨fn, tmps, assign, body, hy, hR⟩ := HY.out j w2 hjl HJ2.out
    rw [hget] at hy
    clear hget
    have g1 : ¬ till <= x := by omega
    gi_wp2_with fail
    refine hR.mono ?_
    clear hy hR p5
    rintro e W3 (⟨rfl, hj3, hz3, hk3⟩ | ⟨ch, rfl, hp⟩)
    ·have HS3 := aB (HS2.out.keep HN.out HZ2.out hz3 hk3)
     have HZ3 := aB (HZ2.out.keep hz3 hk3)
     have HJ3 := aB hj3
     clear hj3 hz3 hk3 HS2 HZ2 HJ2
     gi_wp2
     exact ⟨⟨j + 1, x + 1, by omega, by omega, by omega, by go_num, HJ3.out, HS3.out, HNX.out, HZ3.out⟩, by simp [intOf]; omega⟩
    ·gi_wp2
     exact ⟨rfl, .inr ⟨ch, rfl, hp⟩⟩
end
section
attribute [local go_sem] Oper.semAt_some
def CutR (w : World) (n : Net) (N o k : Nat) (fr till : Int) (e : Ending) (w' : World) : Prop :=
 ∃ P1 P2 P3 P4 P5, e = .returned (.func (.func 176) #[] #[.pointer (some (aV P1 0)), .pointer (some (aV P2 0)), .pointer (some (aV P3 0)), .pointer (some (aV P4 0)), .pointer (some (aV P5 0))]) /\ CuS w' n N P1 P2 P3 P4 P5 o k fr till /\ Below w.heap.size w w' /\ (∀ b, b = P1 ∨ b = P2 ∨ b = P3 ∨ b = P4 ∨ b = P5 -> w.heap.size <= b)
theorem qp (N : Nat) (n : Net) (o k : Nat) (fr till : Int) (w : World) (hN : br w N n) :
  Calls Tryz.prog 137 #[.pointer (some (aV N 0)), iV k, iV o, iV fr, iV till] w (CutR w n N o k fr till) := by
 have HN := aB hN; clear hN
 go_enter Tryz.func137, Tryz.ntmps137
 go_wp2
 go_ret
 have hb : Below w.heap.size w (((((w.alloc (.cells #[.pointer (some (aV N 0))] 123)).alloc (.cells #[iV k] 3)).alloc (.cells #[iV o] 3)).alloc (.cells #[iV fr] 3)).alloc (.cells #[iV till] 3)) :=
  (((((aJ _ w).alloc (aH _) _).alloc (by simp) _).alloc (by simp; omega) _).alloc (by simp; omega) _).alloc (by simp; omega) _
 have c2 : (w.alloc (.cells #[.pointer (some (aV N 0))] 123)).heap[w.heap.size]? = some (.cells #[.pointer (some (aV N 0))] 123) := aC _ _
 have c4 := aC (w.alloc (.cells #[.pointer (some (aV N 0))] 123)) (.cells #[iV k] 3)
 have c3 := aC ((w.alloc (.cells #[.pointer (some (aV N 0))] 123)).alloc (.cells #[iV k] 3)) (.cells #[iV o] 3)
 have c1 := aC (((w.alloc (.cells #[.pointer (some (aV N 0))] 123)).alloc (.cells #[iV k] 3)).alloc (.cells #[iV o] 3)) (.cells #[iV fr] 3)
 have c5 := aC ((((w.alloc (.cells #[.pointer (some (aV N 0))] 123)).alloc (.cells #[iV k] 3)).alloc (.cells #[iV o] 3)).alloc (.cells #[iV fr] 3)) (.cells #[iV till] 3)
 simp only [aT] at c1 c3 c4 c5
 refine ⟨_, _, _, _, _, rfl, ⟨HN.out.below hb, ?_, ?_, ?_, ?_, ?_⟩, hb, ?_⟩
 ·exact aA 0 ((aK _ _ _ (by simp)).trans c1)
 ·exact aA 0 ((aK _ _ _ (by simp; omega)).trans ((aK _ _ _ (by simp; omega)).trans ((aK _ _ _ (by simp; omega)).trans ((aK _ _ _ (by simp)).trans c2))))
 ·exact aA 0 ((aK _ _ _ (by simp)).trans ((aK _ _ _ (by simp)).trans c3))
 ·exact aA 0 ((aK _ _ _ (by simp)).trans ((aK _ _ _ (by simp)).trans ((aK _ _ _ (by simp)).trans c4)))
 ·exact aA 0 c5
 ·intro b hb
  omega
theorem vF (q : Nat) (s : Value) (x : Int) (older : List PanicEntry) (w : World) (hq : w.cell? (aV q 0) = some s) (hqf : w.frozen? (aV q 0) = false) :
  CallsDIn Fence.wide 8 Tryz.prog 136 #[.pointer (some (aV q 0))] (.panicking ({ v := .iface 38 (iV x), recovered := false } :: older)) w fun e u' w' =>
   e = .returned (.tuple #[]) /\ u' = .panicking ({ v := .iface 38 (iV x), recovered := true } :: older) /\ w' = w.setCell (aV q 0) (iV (-1)) := by
 refine callsDIn_of_wpSIn Tryz.func136 rfl trivial fun c₀ cs hu => ?_
 apply wpSIn_seq
 apply wpSIn_region
 simp [wpOpsSIn, go_sem, recoverD, hu, Tryz.ntmps136, Exit.thenS]
 refine wpSIn_of_wpIn rfl (wpIn_wide.2 ?_)
 go_wp2_with fail
 simp [bodyPostS, results, Tryz.results136]
theorem ua (q : Nat) (w : World) :
  CallsDIn Fence.wide 8 Tryz.prog 136 #[.pointer (some (aV q 0))] .returning w fun e u' w' => e = .returned (.tuple #[]) /\ u' = .returning /\ w' = w := by
 refine callsDIn_of_wpSIn Tryz.func136 rfl trivial fun c₀ cs hu => ?_
 apply wpSIn_seq
 apply wpSIn_region
 simp [wpOpsSIn, go_sem, recoverD, hu, Tryz.ntmps136, Exit.thenS]
 refine wpSIn_of_wpIn rfl (wpIn_wide.2 ?_)
 go_wp2_with fail
 cases c₀
 simp_all [bodyPostS, results, Tryz.results136]
theorem pW {W : World} {X : Nat} {g : Int} (h : W.heap[X]? = some (.cells #[iV g] 3 (0, 0))) (tmps : Array Value) (h2 : tmps.getD 14 undef = .pointer (some (aV X 0))) :
  (results Tryz.f75 tmps).run Tryz.prog W = .ok (iV g) W := by
 have e1 : (loadVar 3 (aV X 0)).run Tryz.prog W = .ok (iV g) W := by
  have := cell_of_row W _ 0 _ _ _ h
  simp [loadVar, go_sem, this]
 have h2' : tmps[14]?.getD undef = .pointer (some (aV X 0)) := by simpa using h2
 simp [results, Tryz.results75, asAddr, h2', e1]
def eB (n : Net) (nx : List NsC) (k o d : Nat) : List Int -> Int -> Int
 | [], g => g
 | t :: l, g => match ee n nx k o d t with
  | some x => eB n nx k o d l (max g x)
  | none => -1
def eN (n : Net) (nx : List NsC) (k o d : Nat) (fr till : Int) : Int := eB n nx k o d (jc (calAt n o) (aw n k).cut (1440 * till) (1440 * fr)) (-1)
structure MoS (w W : World) (X N : Nat) (A : Option Addr) (len c k o d : Nat) (g : Int) : Prop where
 bel : Below X w W
 p7 : W.heap[X]? = some (.cells #[.pointer (some (aV N 0))] 123 (0, 0))
 p8 : W.heap[X + 1]? = some (.cells #[.slice A len c] 30 (0, 0))
 p9 : W.heap[X + 1 + 1]? = some (.cells #[iV k] 3 (0, 0))
 p10 : W.heap[X + 1 + 1 + 1]? = some (.cells #[iV o] 3 (0, 0))
 p11 : W.heap[X + 1 + 1 + 1 + 1]? = some (.cells #[iV d] 3 (0, 0))
 p14 : W.heap[X + 1 + 1 + 1 + 1 + 1]? = some (.cells #[iV g] 3 (0, 0))
theorem MoS.below {w W W' : World} {X N : Nat} {A : Option Addr} {len c k o d : Nat} {g : Int} (h : MoS w W X N A len c k o d g) (hb : Below W.heap.size W W') : MoS w W' X N A len c k o d g :=
 ⟨h.bel.trans (hb.mono (by have := aa h.p7; omega)), (hb.block _ (aa h.p7)).trans h.p7, (hb.block _ (aa h.p8)).trans h.p8, (hb.block _ (aa h.p9)).trans h.p9, (hb.block _ (aa h.p10)).trans h.p10, (hb.block _ (aa h.p11)).trans h.p11, (hb.block _ (aa h.p14)).trans h.p14⟩
theorem MoS.grown {w W W' : World} {X N : Nat} {A : Option Addr} {len c k o d : Nat} {g : Int} {r : Nat} (h : MoS w W X N A len c k o d g) (hb : W.grownBy W' (some r)) (hr : X + 1 + 1 + 1 + 1 + 1 < r) : MoS w W' X N A len c k o d g :=
 ⟨gD h.bel hb (by omega) (by have := aa h.p7; omega), (hb.block _ (aa h.p7) (by simp; omega)).trans h.p7, (hb.block _ (aa h.p8) (by simp; omega)).trans h.p8, (hb.block _ (aa h.p9) (by simp; omega)).trans h.p9, (hb.block _ (aa h.p10) (by simp; omega)).trans h.p10, (hb.block _ (aa h.p11) (by simp; omega)).trans h.p11, (hb.block _ (aa h.p14) (by simp; omega)).trans h.p14⟩
theorem MoS.set {w W : World} {X N : Nat} {A : Option Addr} {len c k o d : Nat} {g : Int} (h : MoS w W X N A len c k o d g) (y : Int) : MoS w (W.setCell (aV (X + 1 + 1 + 1 + 1 + 1) 0) (iV y)) X N A len c k o d y :=
 ⟨h.bel.setCell (by simp; omega) _, bU h.p7 (by omega) _ _, bU h.p8 (by omega) _ _, bU h.p9 (by omega) _ _, bU h.p10 (by omega) _ _, bU h.p11 (by omega) _ _, bE h.p14 0 _⟩
theorem MoS.new (w : World) (N : Nat) (A : Option Addr) (len c k o d : Nat) (g : Int) : MoS w ((((((w.alloc (.cells #[.pointer (some (aV N 0))] 123)).alloc (.cells #[.slice A len c] 30)).alloc (.cells #[iV k] 3)).alloc (.cells #[iV o] 3)).alloc (.cells #[iV d] 3)).alloc (.cells #[iV g] 3)) w.heap.size N A len c k o d g := by
 have c7 := aC w (.cells #[.pointer (some (aV N 0))] 123)
 have c8 := aC (w.alloc (.cells #[.pointer (some (aV N 0))] 123)) (.cells #[.slice A len c] 30)
 have c9 := aC ((w.alloc (.cells #[.pointer (some (aV N 0))] 123)).alloc (.cells #[.slice A len c] 30)) (.cells #[iV k] 3)
 have c10 := aC (((w.alloc (.cells #[.pointer (some (aV N 0))] 123)).alloc (.cells #[.slice A len c] 30)).alloc (.cells #[iV k] 3)) (.cells #[iV o] 3)
 have c11 := aC ((((w.alloc (.cells #[.pointer (some (aV N 0))] 123)).alloc (.cells #[.slice A len c] 30)).alloc (.cells #[iV k] 3)).alloc (.cells #[iV o] 3)) (.cells #[iV d] 3)
 have c14 := aC (((((w.alloc (.cells #[.pointer (some (aV N 0))] 123)).alloc (.cells #[.slice A len c] 30)).alloc (.cells #[iV k] 3)).alloc (.cells #[iV o] 3)).alloc (.cells #[iV d] 3)) (.cells #[iV g] 3)
 simp only [aT] at c8 c9 c10 c11 c14
 refine ⟨((((((aJ _ w).alloc (aH _) _).alloc (by simp) _).alloc (by simp; omega) _).alloc (by simp; omega) _).alloc (by simp; omega) _).alloc (by simp; omega) _, ?_, ?_, ?_, ?_, ?_, c14⟩
 ·exact (aK _ _ _ (by simp <;> omega)).trans ((aK _ _ _ (by simp <;> omega)).trans ((aK _ _ _ (by simp <;> omega)).trans ((aK _ _ _ (by simp <;> omega)).trans ((aK _ _ _ (by simp)).trans c7))))
 ·exact (aK _ _ _ (by simp <;> omega)).trans ((aK _ _ _ (by simp <;> omega)).trans ((aK _ _ _ (by simp <;> omega)).trans ((aK _ _ _ (by simp)).trans c8)))
 ·exact (aK _ _ _ (by simp <;> omega)).trans ((aK _ _ _ (by simp <;> omega)).trans ((aK _ _ _ (by simp)).trans c9))
 ·exact (aK _ _ _ (by simp <;> omega)).trans ((aK _ _ _ (by simp)).trans c10)
 ·exact (aK _ _ _ (by simp)).trans c11
theorem MoS.six {w W : World} {X N : Nat} {A : Option Addr} {len c k o d : Nat} {g : Int} (h : MoS w W X N A len c k o d g) : X + 1 + 1 + 1 + 1 + 1 < W.heap.size := aa h.p14
def MoI (w : World) (X N : Nat) (A : Option Addr) (len c : Nat) (n : Net) (nx : List NsC) (k o d : Nat) (L : List Int) (j : Nat) (W : World) : Prop := ∃ g, MoS w W X N A len c k o d g /\ eB n nx k o d L (-1) = eB n nx k o d (L.drop j) g
def MoP (w : World) (X N : Nat) (A : Option Addr) (len c : Nat) (n : Net) (nx : List NsC) (k o d : Nat) (L : List Int) (ch : List PanicEntry) (W : World) : Prop := ∃ y g, ch = [{ v := .iface 38 (iV y), recovered := false }] /\ MoS w W X N A len c k o d g /\ eB n nx k o d L (-1) = -1
theorem nS (c : Cal) {m : Int} (h1 : 0 <= m) (h2 : m < 1440) (till : Int) : ∀ (f : Nat) (t x : Int), x ∈ iJ c m till f t -> t <= x /\ x < till
 | 0, _, _, h => by cases h
 | f + 1, t, x, h => by
  unfold iJ at h
  by_cases hc : (ak c m t).2 = 0 /\ (ak c m t).1 < till
  ·rw [if_pos hc] at h
   have h5 := cf h1 h2 (c := c) (t := t) (x := (ak c m t).1) (by rw [<- hc.1])
   rcases List.mem_cons.1 h with rfl | h
   ·exact ⟨h5.1, hc.2⟩
   ·have := nS c h1 h2 till f _ _ h
    omega
  ·rw [if_neg hc] at h; cases h
theorem wK (c : Cal) {m : Int} (h1 : 0 <= m) (h2 : m < 1440) {till t x : Int} (h : x ∈ jc c m till t) : t <= x /\ x < till := nS c h1 h2 till _ _ _ h
theorem rB {n : Net} {nx : List NsC} {k o d : Nat} {L : List Int} {j : Nat} {t g : Int} (ht : L[j]? = some t) : (∀ x, ee n nx k o d t = some x -> eB n nx k o d (L.drop j) g = eB n nx k o d (L.drop (j + 1)) (max g x)) /\ (ee n nx k o d t = none -> eB n nx k o d (L.drop j) g = -1) := by
 obtain ⟨hj, rfl⟩ := aE.1 ht
 rw [List.drop_eq_getElem_cons hj]
 constructor
 ·intro x hx
  rw [eB, hx]
 ·intro hx
  rw [eB, hx]
def moC (X N : Nat) (A : Option Addr) (len c k o d : Nat) (w' : World) : Prop := w'.cell? (aV X 0) = some (.pointer (some (aV N 0))) /\ w'.cell? (aV (X + 1) 0) = some (.slice A len c) /\ w'.cell? (aV (X + 1 + 1) 0) = some (iV k) /\ w'.cell? (aV (X + 1 + 1 + 1) 0) = some (iV o) /\ w'.cell? (aV (X + 1 + 1 + 1 + 1) 0) = some (iV d)
theorem MoS.cells {w W : World} {X N : Nat} {A : Option Addr} {len c k o d : Nat} {g : Int} (h : MoS w W X N A len c k o d g) : moC X N A len c k o d W :=
 ⟨aA 0 h.p7, aA 0 h.p8, aA 0 h.p9, aA 0 h.p10, aA 0 h.p11⟩
theorem vG (N : Nat) (n : Net) (A : Option Addr) (c : Nat) (nx : List NsC) (k o d : Nat) (fr till : Int) (w : World) (hN : br w N n) (hT : Tab w A nx) (hG : cY n) (hF : bi n nx) (hk : k < n.clss.length) (ho : o < n.offs.length) (hd : d < n.offs.length) (hf1 : 0 <= fr) (hf2 : fr <= 700) (ht1 : 0 <= till) (ht2 : till <= 700) :
  Calls Tryz.prog 75 #[.pointer (some (aV N 0)), .slice A nx.length c, iV k, iV o, iV d, iV fr, iV till] w fun e w' => e = .returned (iV (eN n nx k o d fr till)) /\ Below w.heap.size w w' := by
 have hmf : ∀ (fn : Fn) (first cap : Array Value) (w : World), (Instr.makeFunc fn first cap).run Tryz.prog w = .ok (.func fn first cap) w := fun _ _ _ _ => rfl
 refine jg Tryz.func75 rfl ?_
 simp only [Tryz.ntmps75, List.size_toArray, List.length_cons, List.length_nil, Nat.reduceAdd, Nat.reduceSub, Array.replicate_succ, Array.replicate_zero, List.push_toArray, List.append_toArray, List.nil_append, List.cons_append]
 have HN := aB hN; clear hN
 have HT := aB hT; clear hT
 have HG := aB hG; clear hG
 have HF := aB hF; clear hF
 have HM := aB (MoS.new w N A nx.length c k o d (-1))
 refine cN (dy ?_)
 go_wp2
 refine cN (dy ?_)
 go_wp2
 refine cN (dy ?_)
 go_wp2
 refine cN ?_
 refine cN (dy ?_)
 go_wp2_with fail
 refine (qp N n o k (1440 * fr) (1440 * till) _ (HN.out.below HM.out.bel)).mono ?_
 rintro e w2 ⟨P1, P2, P3, P4, P5, rfl, hcu, hb, hP⟩
 have HM2 := aB (HM.out.below hb)
 have HCU := aB hcu; clear hcu
 have hb2 := hb.size
 have hPX : ∀ b, b = P1 ∨ b = P2 ∨ b = P3 ∨ b = P4 ∨ b = P5 -> w.heap.size + 1 + 1 + 1 + 1 + 1 < b := fun b hb => Nat.lt_of_lt_of_le HM.out.six (hP b hb)
 have HPX := aB hPX; clear hPX
 clear hb hb2 hP HM
 have HX6 := aB HM2.out.six
 have HBB : Hid (∀ b, cuB w P1 P2 P3 P4 P5 b -> b < w2.heap.size) := fun b hb => by
  rcases hb with hb | hb | hb | hb | hb | hb
  ·have := HX6.out; omega
  ·rw [hb]; exact aM w2 _ HCU.out.b1
  ·rw [hb]; exact aM w2 _ HCU.out.b2
  ·rw [hb]; exact aM w2 _ HCU.out.b3
  ·rw [hb]; exact aM w2 _ HCU.out.b4
  ·rw [hb]; exact aM w2 _ HCU.out.b5
 have HS0 : Hid (jK w w2) := ⟨HM2.out.bel.size, fun b hb => HM2.out.bel.block b hb⟩
 go_wp2_with fail
 refine jM ?_
 generalize hL : jc (calAt n o) (aw n k).cut (1440 * till) (1440 * fr) = L
 have HLL := aB hL; clear hL
 have hseq := wJ w n N P1 P2 P3 P4 P5 o k (1440 * fr) (1440 * till) w2 HN.out HS0.out HG.out hk ho HCU.out (by omega) (by omega) (by omega)
 rw [HLL.out] at hseq
 have HSEQ := aB hseq; clear hseq
 generalize hX : w.heap.size = X at *
 have HX := aB hX; clear hX
 refine wp_seqP Tryz.func75 (gf := 176) (lb := #[.pointer (some (aV P1 0)), .pointer (some (aV P2 0)), .pointer (some (aV P3 0)), .pointer (some (aV P4 0)), .pointer (some (aV P5 0))]) (by rfl) (fun _ _ => rfl) HSEQ.out HBB.out (fun _ => rfl)
  (MoI w X N A nx.length c n nx k o d L)
  (MoP w X N A nx.length c n nx k o d L)
  (fun j W W' r ⟨g, h1, h2⟩ hg hr => ⟨g, h1.grown hg (by have := HX6.out; omega), h2⟩)
  (fun j W W' ⟨g, h1, h2⟩ hb => ⟨g, h1.below hb, h2⟩)
  ⟨-1, HM2.out, rfl⟩
  (fun j => { tmps := #[.pointer (some (aV N 0)), .slice A nx.length c, iV k, iV o, iV d, iV fr, iV till, .pointer (some (aV X 0)), .pointer (some (aV (X + 1) 0)), .pointer (some (aV (X + 1 + 1) 0)), .pointer (some (aV (X + 1 + 1 + 1) 0)), .pointer (some (aV (X + 1 + 1 + 1 + 1) 0)), undef, undef, .pointer (some (aV (X + 1 + 1 + 1 + 1 + 1) 0)), iV (L.getD j 0), .func (.func 136) #[] #[.pointer (some (aV (X + 1 + 1 + 1 + 1 + 1) 0))], .pointer (some (aV N 0)), iV k, iV o, iV fr, iV (1440 * fr), iV till, iV (1440 * till), .func (.func 176) #[] #[.pointer (some (aV P1 0)), .pointer (some (aV P2 0)), .pointer (some (aV P3 0)), .pointer (some (aV P4 0)), .pointer (some (aV P5 0))], iV (L.getD j 0), undef, undef, undef, undef, undef, undef, undef, undef, undef, undef], defers := [] }) ?assign ?body ?pan ?done
 case assign =>
  intro l j W K hK
  unfold encI
  generalize L.getD j 0 = t at *
  gi_wp2
  exact hK
 case body =>
  rintro l j W hj ⟨g, hm, hmf2⟩ hsz
  have HMW := aB hm; clear hm
  have HMF := aB hmf2; clear hmf2
  generalize htt : L.getD j 0 = t
  have hc14 : W.drew.cell? (aV (X + 1 + 1 + 1 + 1 + 1) 0) = some (iV g) := aA 0 HMW.out.p14
  refine wpIn_block ?_
  refine gK (S := moC X N A nx.length c k o d) (by kernel_rfl) (by kernel_rfl) (fun ⟨_, _, h⟩ => h) ?_
  have hHeld : moC X N A nx.length c k o d W.drew := HMW.out.cells
  refine wpAnyH_take (i := 1) (v := ?_) rfl (by kernel_rfl) (by kernel_rfl) (by kernel_rfl) (fun _ _ _ h => h) (Or.inl ⟨by kernel_rfl, ?_⟩) (by assumption) ?_
  rotate_left
  ·(intro w hSw; (try unfold moC at hSw); go_simp; (try with_reducible rfl))
  refine wpAnyH_take (i := 2) (v := ?_) rfl (by kernel_rfl) (by kernel_rfl) (by kernel_rfl) (fun _ _ _ h => h) (Or.inl ⟨by kernel_rfl, ?_⟩) (by assumption) ?_
  rotate_left
  ·(intro w hSw; (try unfold moC at hSw); go_simp; (try with_reducible rfl))
  refine wpAnyH_take (i := 3) (v := ?_) rfl (by kernel_rfl) (by kernel_rfl) (by kernel_rfl) (fun _ _ _ h => h) (Or.inl ⟨by kernel_rfl, ?_⟩) (by assumption) ?_
  rotate_left
  ·(intro w hSw; (try unfold moC at hSw); go_simp; (try with_reducible rfl))
  refine wpAnyH_take (i := 4) (v := ?_) rfl (by kernel_rfl) (by kernel_rfl) (by kernel_rfl) (fun _ _ _ h => h) (Or.inl ⟨by kernel_rfl, ?_⟩) (by assumption) ?_
  rotate_left
  ·(intro w hSw; (try unfold moC at hSw); go_simp; (try with_reducible rfl))
  refine wpAnyH_take (i := 5) (v := ?_) rfl (by kernel_rfl) (by kernel_rfl) (by kernel_rfl) (fun _ _ _ h => h) (Or.inl ⟨by kernel_rfl, ?_⟩) (by assumption) ?_
  rotate_left
  ·(intro w hSw; (try unfold moC at hSw); go_simp; (try with_reducible rfl))
  refine wpAnyH_take (i := 6) (v := ?_) rfl (by kernel_rfl) (by kernel_rfl) (by kernel_rfl) (fun _ _ _ h => h) (Or.inl ⟨by kernel_rfl, ?_⟩) (by assumption) ?_
  rotate_left
  ·(intro w hSw; (try unfold moC at hSw); go_simp; (try with_reducible rfl))
  have hmD : MoS w W.drew X N A nx.length c k o d g := HMW.out.below (al (aJ _ _))
  have HMD := aB hmD; clear hmD
  have hNW : br W.drew N n := HN.out.below (by rw [HX.out]; exact HMD.out.bel)
  have hTW : Tab W.drew A nx := HT.out.below (by rw [HX.out]; exact HMD.out.bel)
  have HNW := aB hNW; clear hNW
  have HTW := aB hTW; clear hTW
  have hlj : L[j]? = some t := by
   rw [<- htt]
   simp [List.getD, hj]
  have HST := aB (rB (n := n) (nx := nx) (k := k) (o := o) (d := d) (g := g) hlj)
  have htr : 0 <= t /\ t <= 3000000 := by
   have h1 := aF hlj
   rw [<- HLL.out] at h1
   have h2 := HG.out.cls _ (aF (bX hk))
   have := wK _ h2.1 h2.2.1 h1
   omega
  clear hlj htt hj
  refine wpAnyH_ready (rs := [0, 7]) (by kernel_rfl) (by simp) ?_
  refine AllReadyH.cons rfl (fun K hK => ?ca) (AllReadyH.cons rfl (fun K hK => ?cb) AllReadyH.nil)
  case ca =>
   go_simp
   refine hK.out _ _ hHeld (fun _ => ?_)
   clear hK K
   refine wpAnyH_ready (rs := [7]) (by kernel_rfl) (by simp) ?_
   refine AllReadyH.cons rfl (fun K hK => ?_) AllReadyH.nil
   go_simp
   refine (qn N n A c nx k o d t _ HNW.out HTW.out HG.out HF.out hk ho hd htr.1 htr.2).mono ?_
   rintro e w3 ⟨hb3, hr⟩
   have HM3 := aB (HMD.out.below hb3)
   have HKP : Hid (ie (fun b => b = w2.heap.size ∨ b = w2.heap.size + 1 ∨ cuB w P1 P2 P3 P4 P5 b) W w3) := fun b hb => hb3.block b (by
    show b < W.heap.size
    rcases hb with rfl | rfl | hb
    ·omega
    ·omega
    ·have := HBB.out b hb; omega)
   have HSZ3 : Hid (W.heap.size <= w3.heap.size) := hb3.size
   clear hb3
   rcases hr with ⟨x, hx, rfl⟩ | ⟨hx, y, rfl⟩
   case inr =>
    have HP : Hid (MoP w X N A nx.length c n nx k o d L [{ v := .iface 38 (iV y), recovered := false }] w3) := ⟨y, g, rfl, HM3.out, HMF.out.trans (HST.out.2 hx)⟩
    go_wp2_with fail
    exact ⟨rfl, HKP.out, HP.out⟩
   case inl =>
    have HI : Hid (MoI w X N A nx.length c n nx k o d L (j + 1) (w3.setCell (aV (X + 1 + 1 + 1 + 1 + 1) 0) (iV (max g x)))) := ⟨max g x, HM3.out.set _, HMF.out.trans (HST.out.1 x hx)⟩
    have HKP2 : Hid (ie (fun b => b = w2.heap.size ∨ b = w2.heap.size + 1 ∨ cuB w P1 P2 P3 P4 P5 b) W (w3.setCell (aV (X + 1 + 1 + 1 + 1 + 1) 0) (iV (max g x)))) := fun b hb => (Below.heap_setCell _ _ _ _ (by
     show b ≠ X + 1 + 1 + 1 + 1 + 1
     have h1 := HX6.out
     rcases hb with rfl | rfl | hb | hb
     ·omega
     ·omega
     ·have := HX.out; omega
     ·have := HPX.out b hb; omega)).trans (HKP.out b hb)
    have hc3 : w3.cell? (aV (X + 1 + 1 + 1 + 1 + 1) 0) = some (iV g) := aA 0 HM3.out.p14
    have hf3 : w3.frozen? (aV (X + 1 + 1 + 1 + 1 + 1) 0) = false := ac HM3.out.p14 0
    have HCS : Hid (moC X N A nx.length c k o d w3) := HM3.out.cells
    have HCS2 : Hid (moC X N A nx.length c k o d (w3.setCell (aV (X + 1 + 1 + 1 + 1 + 1) 0) (iV (max g x)))) := (HM3.out.set _).cells
    clear hx hc14 hHeld
    go_wp2_with fail
    refine hK.out _ _ HCS.out (fun _ => ?_)
    clear hK K
    refine wpAnyH_ready (rs := [8]) (by kernel_rfl) (by simp) ?_
    refine AllReadyH.cons rfl (fun K hK => ?_) AllReadyH.nil
    go_simp
    have hmx : (if g < x then x else g) = max g x := by rw [Int.max_def]; split <;> split <;> omega
    try rw [hmx]
    clear hmx
    refine hK.out _ _ HCS.out (fun _ => ?_)
    clear hK K
    refine wpAnyH_ready (rs := [9]) (by kernel_rfl) (by simp) ?_
    refine AllReadyH.cons rfl (fun K hK => ?_) AllReadyH.nil
    go_simp
    refine hK.out _ _ HCS2.out (fun _ => ?_)
    clear hK K
    refine wpAnyH_done (by kernel_rfl) ?_ _
    exact ⟨by simp; exact HSZ3.out, HKP2.out, HI.out⟩
  case cb =>
   go_simp
   refine (qn N n A c nx k o d t _ HNW.out HTW.out HG.out HF.out hk ho hd htr.1 htr.2).mono ?_
   rintro e w3 ⟨hb3, hr⟩
   have HM3 := aB (HMD.out.below hb3)
   have HKP : Hid (ie (fun b => b = w2.heap.size ∨ b = w2.heap.size + 1 ∨ cuB w P1 P2 P3 P4 P5 b) W w3) := fun b hb => hb3.block b (by
    show b < W.heap.size
    rcases hb with rfl | rfl | hb
    ·omega
    ·omega
    ·have := HBB.out b hb; omega)
   have HSZ3 : Hid (W.heap.size <= w3.heap.size) := hb3.size
   clear hb3
   rcases hr with ⟨x, hx, rfl⟩ | ⟨hx, y, rfl⟩
   case inr =>
    have HP : Hid (MoP w X N A nx.length c n nx k o d L [{ v := .iface 38 (iV y), recovered := false }] w3) := ⟨y, g, rfl, HM3.out, HMF.out.trans (HST.out.2 hx)⟩
    go_wp2_with fail
    exact ⟨rfl, HKP.out, HP.out⟩
   case inl =>
    have HI : Hid (MoI w X N A nx.length c n nx k o d L (j + 1) (w3.setCell (aV (X + 1 + 1 + 1 + 1 + 1) 0) (iV (max g x)))) := ⟨max g x, HM3.out.set _, HMF.out.trans (HST.out.1 x hx)⟩
    have HKP2 : Hid (ie (fun b => b = w2.heap.size ∨ b = w2.heap.size + 1 ∨ cuB w P1 P2 P3 P4 P5 b) W (w3.setCell (aV (X + 1 + 1 + 1 + 1 + 1) 0) (iV (max g x)))) := fun b hb => (Below.heap_setCell _ _ _ _ (by
     show b ≠ X + 1 + 1 + 1 + 1 + 1
     have h1 := HX6.out
     rcases hb with rfl | rfl | hb | hb
     ·omega
     ·omega
     ·have := HX.out; omega
     ·have := HPX.out b hb; omega)).trans (HKP.out b hb)
    have hc3 : w3.cell? (aV (X + 1 + 1 + 1 + 1 + 1) 0) = some (iV g) := aA 0 HM3.out.p14
    have hf3 : w3.frozen? (aV (X + 1 + 1 + 1 + 1 + 1) 0) = false := ac HM3.out.p14 0
    have HCS : Hid (moC X N A nx.length c k o d w3) := HM3.out.cells
    have HCS2 : Hid (moC X N A nx.length c k o d (w3.setCell (aV (X + 1 + 1 + 1 + 1 + 1) 0) (iV (max g x)))) := (HM3.out.set _).cells
    clear hx hc14 hHeld
    go_wp2_with fail
    refine hK.out _ _ HCS.out (fun _ => ?_)
    clear hK K
    refine wpAnyH_ready (rs := [0]) (by kernel_rfl) (by simp) ?_
    refine AllReadyH.cons rfl (fun K hK => ?_) AllReadyH.nil
    go_simp
    refine hK.out _ _ HCS.out (fun _ => ?_)
    clear hK K
    refine wpAnyH_ready (rs := [8]) (by kernel_rfl) (by simp) ?_
    refine AllReadyH.cons rfl (fun K hK => ?_) AllReadyH.nil
    go_simp
    have hmx : (if g < x then x else g) = max g x := by rw [Int.max_def]; split <;> split <;> omega
    try rw [hmx]
    clear hmx
    refine hK.out _ _ HCS.out (fun _ => ?_)
    clear hK K
    refine wpAnyH_ready (rs := [9]) (by kernel_rfl) (by simp) ?_
    refine AllReadyH.cons rfl (fun K hK => ?_) AllReadyH.nil
    go_simp
    refine hK.out _ _ HCS2.out (fun _ => ?_)
    clear hK K
    refine wpAnyH_done (by kernel_rfl) ?_ _
    exact ⟨by simp; exact HSZ3.out, HKP2.out, HI.out⟩
 case pan =>
  rintro ch W ⟨y, g, rfl, hm, hmf2⟩ hd2
  have hm3 := hm.grown (r := w2.heap.size) (grownBy_putObj' W w2.heap.size (.deferred none)) HX6.out
  refine ⟨by simp, .inl ⟨_, _, rfl, run_takeDeferred hd2, ?_⟩⟩
  refine ⟨by simp, .inr ⟨fun h => (by cases h), _, _, 136, #[.pointer (some (aV (X + 1 + 1 + 1 + 1 + 1) 0))], rfl, by simp [go_sem], fun _ _ => trivial, ?_⟩⟩
  refine CallsDIn.mono (vF (X + 1 + 1 + 1 + 1 + 1) _ y [] _ (aA 0 hm3.p14) (ac hm3.p14 0)) ?_
  rintro e u' w'' ⟨rfl, rfl, rfl⟩
  have hm4 := hm3.set (-1)
  refine ⟨_, pW hm4.p14 _ rfl, ?_, hm4.bel⟩
  unfold eN
  rw [HLL.out, hmf2]
 case done =>
  rintro W ⟨g, hm, hmf2⟩ hd2
  have hc3 : W.cell? (aV (X + 1 + 1 + 1 + 1 + 1) 0) = some (iV g) := aA 0 hm.p14
  have hf3 : W.frozen? (aV (X + 1 + 1 + 1 + 1 + 1) 0) = false := ac hm.p14 0
  have HMD := aB hm; clear hm
  have HMF := aB hmf2; clear hmf2
  have HD2 := aB hd2; clear hd2
  show j9 _ _ _ _ _ _
  refine cN (dy ?_)
  go_wp2
  refine dy ?_
  go_wp2
  have hm5 := HMD.out.set g
  have hd3 : (W.setCell (aV (X + 1 + 1 + 1 + 1 + 1) 0) (iV g)).heap[w2.heap.size]? = some (.deferred (some [])) := (Below.heap_setCell _ _ _ _ (by show w2.heap.size ≠ X + 1 + 1 + 1 + 1 + 1; have := HX6.out; omega)).trans HD2.out
  have hm6 := hm5.grown (r := w2.heap.size) (grownBy_putObj' _ w2.heap.size (.deferred none)) HX6.out
  refine ⟨by simp, .inl ⟨_, _, rfl, run_takeDeferred hd3, ?_⟩⟩
  refine ⟨by simp, .inr ⟨fun h => (by cases h), _, _, 136, #[.pointer (some (aV (X + 1 + 1 + 1 + 1 + 1) 0))], rfl, by simp [go_sem], fun _ _ => trivial, ?_⟩⟩
  refine CallsDIn.mono (ua (X + 1 + 1 + 1 + 1 + 1) _) ?_
  rintro e u' w'' ⟨rfl, rfl, rfl⟩
  refine ⟨_, pW hm6.p14 _ rfl, ?_, hm6.bel⟩
  unfold eN
  rw [HLL.out, HMF.out, List.drop_length]
  rfl
end
theorem lG {c : Cal} {m t u x y : Int} (h1 : 0 <= m) (h2 : m < 1440) (ht : t <= u) (h : ak c m t = (x, 0)) (k : ak c m u = (y, 0)) : x <= y := by
 obtain ⟨D, rfl, a1, a2, a3, _⟩ := fo h1 h2 h
 obtain ⟨E, rfl, b1, b2, _⟩ := fo h1 h2 k
 rcases Int.lt_or_le E D with hED | hED
 ·have := a3 E hED b1
  omega
 ·unfold be; omega
theorem qk {c : Cal} {m t u x : Int} (h1 : 0 <= m) (h2 : m < 1440) (ht : t <= u) (h : (ak c m t).2 ≠ 0) (k : ak c m u = (x, 0)) : t + 84960 <= x := by
 obtain ⟨D, rfl, a1, a2, a3, a4, a5⟩ := fo h1 h2 k
 rcases eQ c m t with ⟨E, hE, h3⟩ | ⟨hE, h3⟩
 ·rw [h3] at h
  exact absurd rfl h
 ·have hL : bm c m t <= D := (cg h1 h2).2 (by omega)
  have hlt : ¬ D < bm c m t + 60 := fun hl => by
   have := iu hE D hL (by omega)
   rw [a1] at this
   cases this
  have h5 := (cg (c := c) h1 h2).1 (Int.le_refl (bm c m t))
  unfold be at *
  omega
structure sN (n m : Net) : Prop where
 lins : n.lins = m.lins
 lens : n.offs.length = m.offs.length
 cal : ∀ o, calAt n o = calAt m o
 ready : ∀ o < m.offs.length, ∀ t u, t <= u -> ax (ap n o) t <= ax (ap m o) u
theorem sN.same (n : Net) : sN n n := ⟨rfl, rfl, fun _ => rfl, fun o _ t u h => by unfold ax; omega⟩
inductive qP {α : Type} (R : α -> α -> Prop) : List α -> List α -> Prop
 | nil : qP R [] []
 | cons {a b : α} {l m : List α} (h : R a b) (t : qP R l m) : qP R (a :: l) (b :: m)
theorem qP.len {α : Type} {R : α -> α -> Prop} {l m : List α} (h : qP R l m) : l.length = m.length := by
 induction h with
 | nil => rfl
 | cons _ _ ih => simp [ih]
theorem qP.get {α : Type} {R : α -> α -> Prop} {l m : List α} (h : qP R l m) : ∀ (i : Nat) (a b : α), l[i]? = some a -> m[i]? = some b -> R a b := by
 induction h with
 | nil => intro i a b h; simp at h
 | cons h t ih =>
  intro i a b ha hb
  cases i with
  | zero => cases ha; cases hb; exact h
  | succ i => exact ih i a b ha hb
def LeSt (s s' : St) : Prop := s.office = s'.office /\ s.line = s'.line /\ s.arrive <= s'.arrive /\ s.depart <= s'.depart
theorem oT {c : Cal} {L : Lin} {t u : Int} (h1 : 0 <= L.at_) (h2 : L.at_ < 1440) (ht : t <= u) (h : (aZ c L t).2 = 0) (k : (aZ c L u).2 = 0) : (aZ c L t).1 <= (aZ c L u).1 := by
 unfold aZ at *
 by_cases a : tOk t = true
 ·by_cases b : tOk u = true
  ·rw [if_pos a] at h ⊢
   rw [if_pos b] at k ⊢
   exact lG h1 h2 ht (cU h) (cU k)
  ·rw [if_neg b] at k
   exact absurd k (by decide)
 ·rw [if_neg a] at h
  exact absurd h (by decide)
theorem oR {n : Net} {nx : List NsC} (hG : cY n) (hF : bi n nx) {o d : Nat} (ho : o < n.offs.length) (hd : d < n.offs.length) (hl : aX nx o d ≠ -1) : (0 <= (af n (aX nx o d).toNat).at_ /\ (af n (aX nx o d).toNat).at_ < 1440) /\ (af n (aX nx o d).toNat).to.toNat < n.offs.length /\ ((af n (aX nx o d).toNat).to.toNat : Int) = (af n (aX nx o d).toNat).to /\ 0 <= aX nx o d /\ aX nx o d < n.lins.length := by
 obtain ⟨h1, h2, h3⟩ := (nJ hF ho hd).resolve_left hl
 have hlt : (aX nx o d).toNat < n.lins.length := by omega
 have := hG.lin _ (aF (bC hlt))
 refine ⟨⟨this.2.2.1, this.2.2.2.1⟩, by omega, by omega, h1, h2⟩
theorem qT {m n : Net} {nx : List NsC} (hQ : sN m n) (hG : cY n) (hF : bi n nx) {d : Nat} (hd : d < n.offs.length) : ∀ (f o : Nat) (t u : Int), o < n.offs.length -> t <= u -> (bA m nx d f o t).1 = 0 -> (bA n nx d f o u).1 = 0 -> qP LeSt (bA m nx d f o t).2 (bA n nx d f o u).2 := by
 intro f
 induction f with
 | zero =>
  intro o t u ho ht h k
  by_cases hod : o = d
  ·subst hod
   rw [fO, fO]
   exact .cons ⟨rfl, rfl, ht, Int.le_refl _⟩ .nil
  ·simp only [bA, hod, if_false] at h
   split at h
   ·exact absurd h (by decide)
   ·split at h
    ·exact absurd h (by decide)
    ·rename_i h2
     exact absurd h h2
 | succ f ih =>
  intro o t u ho ht h k
  by_cases hod : o = d
  ·subst hod
   rw [fO, fO]
   exact .cons ⟨rfl, rfl, ht, Int.le_refl _⟩ .nil
  by_cases hl : aX nx o d = -1
  ·rw [lN _ _ _ _ _ _ hod hl] at h
   exact absurd h (by decide)
  obtain ⟨⟨p1, p2⟩, p3, p4, -⟩ := oR hG hF ho hd hl
  have hlm : af m (aX nx o d).toNat = af n (aX nx o d).toNat := by unfold af; rw [hQ.lins]
  simp only [bA, hod, hl, if_false] at h k ⊢
  rw [hlm, hQ.cal] at h ⊢
  split at h
  case isFalse hh => exact absurd h hh
  case isTrue hh =>
  split at k
  case isFalse kk => exact absurd k kk
  case isTrue kk =>
  rw [if_pos hh, if_pos kk]
  have hdep := oT p1 p2 (hQ.ready o ho t u ht) hh kk
  split at h
  case isFalse g => exact absurd h g
  case isTrue g =>
  split at k
  case isFalse g' => exact absurd k g'
  case isTrue g' =>
  rw [if_pos g, if_pos g']
  exact .cons ⟨rfl, rfl, ht, hdep⟩ (ih _ _ _ p3 (by omega) g g')
def ej (n : Net) (nx : List NsC) (d : Nat) : Nat -> Int -> List St -> Prop
 | _, _, [] => False
 | o, t, [s] => s = ⟨o, t, -1, -1⟩ /\ o = d
 | o, t, s :: s' :: l => s = ⟨o, t, (aZ (calAt n o) (af n (aX nx o d).toNat) (ax (ap n o) t)).1, aX nx o d⟩ /\ o ≠ d /\ aX nx o d ≠ -1 /\ (aZ (calAt n o) (af n (aX nx o d).toNat) (ax (ap n o) t)).2 = 0 /\ ej n nx d (af n (aX nx o d).toNat).to.toNat (s.depart + (af n (aX nx o d).toNat).travel) (s' :: l)
theorem oA {n : Net} {nx : List NsC} {d : Nat} : ∀ (f o : Nat) (t : Int), (bA n nx d f o t).1 = 0 -> ej n nx d o t (bA n nx d f o t).2 /\ (bA n nx d f o t).2.length <= f + 1 := by
 intro f
 induction f with
 | zero =>
  intro o t h
  by_cases hod : o = d
  ·subst hod
   rw [fO]
   exact ⟨⟨rfl, rfl⟩, aH _⟩
  ·simp only [bA, hod, if_false] at h
   split at h
   ·exact absurd h (by decide)
   ·split at h
    ·exact absurd h (by decide)
    ·rename_i h2
     exact absurd h h2
 | succ f ih =>
  intro o t h
  by_cases hod : o = d
  ·subst hod
   rw [fO]
   exact ⟨⟨rfl, rfl⟩, by simp⟩
  by_cases hl : aX nx o d = -1
  ·rw [lN _ _ _ _ _ _ hod hl] at h
   exact absurd h (by decide)
  simp only [bA, hod, hl, if_false] at h ⊢
  split at h
  case isFalse hh => exact absurd h hh
  case isTrue hh =>
  split at h
  case isFalse g => exact absurd h g
  case isTrue g =>
  rw [if_pos hh, if_pos g]
  obtain ⟨i1, i2⟩ := ih _ _ g
  generalize hw : (bA n nx d f (af n (aX nx o d).toNat).to.toNat ((aZ (calAt n o) (af n (aX nx o d).toNat) (ax (ap n o) t)).1 + (af n (aX nx o d).toNat).travel)).2 = W at i1 i2
  cases W with
  | nil => exact i1.elim
  | cons s' l => exact ⟨⟨rfl, hod, hl, hh, i1⟩, by simp at i2 ⊢; omega⟩
theorem qo {c : Cal} {m : Int} (h1 : 0 <= m) (h2 : m < 1440) {M T : Int} (hMT : M <= T) : ∀ (f : Nat) (t : Int), (T - t).toNat <= f -> t <= M -> T - t <= 84960 -> jc c m T t = jc c m M t ++ jc c m T M
 | 0, t, hf, ht, hw => by
  have e1 : (T - t).toNat = 0 := by omega
  have e2 : (M - t).toNat = 0 := by omega
  have e3 : (T - M).toNat = 0 := by omega
  unfold jc
  rw [e1, e2, e3]
  rfl
 | f + 1, t, hf, ht, hw => by
  by_cases hok : (ak c m t).2 = 0
  ·have h3 := cU hok
   obtain ⟨h4, h5⟩ := cf h1 h2 h3
   by_cases hM : (ak c m t).1 < M
   ·rw [fz c h1 h2 T t, fz c h1 h2 M t, if_pos ⟨hok, by omega⟩, if_pos ⟨hok, hM⟩, qo h1 h2 hMT f _ (by omega) (by omega) (by omega), List.cons_append]
   ·have h6 := jV h1 h2 ht (by omega) h3
    rw [fz c h1 h2 M t, if_neg (by rintro ⟨_, h⟩; exact hM h), List.nil_append, fz c h1 h2 T t, fz c h1 h2 T M, h6, hok]
  ·rw [fz c h1 h2 T t, fz c h1 h2 M t, if_neg (fun h => hok h.1), if_neg (fun h => hok h.1), List.nil_append, fz c h1 h2 T M, if_neg]
   rintro ⟨h6, h7⟩
   have := qk h1 h2 ht hok (cU h6)
   omega
structure ld (Pr : Nat -> Value -> Nat -> World -> Prop) : Prop where
 keep : ∀ i v B w w', Pr i v B w -> w.heap.size <= w'.heap.size -> (∀ b, B <= b -> b < w.heap.size -> w'.heap[b]? = w.heap[b]?) -> Pr i v B w'
 mono : ∀ i v B B' w, Pr i v B w -> B' <= B -> Pr i v B' w
def wY (w : World) (m : Nat) (Pr : Nat -> Value -> Nat -> World -> Prop) (e : Ending) (w' : World) : Prop :=
 ∃ g xs, e = .returned (.slice (some (aV g 0)) m m) /\ w.heap.size <= g /\ g < w'.heap.size /\ Rd w' (some (aV g 0)) xs /\ xs.length = m /\ (∀ j < m, ∃ v, xs[j]? = some v /\ Pr j v (g + 1) w') /\ Below w.heap.size w w'
def FmI (v : Value) : Prop := ∃ y, v = iV y
def FmS (v : Value) : Prop := ∃ A m c, v = .slice A m c
def uP (Fm : Value -> Prop) (f : FuncId) (cb : Array Value) (m : Nat) (Pr : Nat -> Value -> Nat -> World -> Prop) (w : World) : Prop :=
 ∀ i < m, ∀ w', Below w.heap.size w w' -> Calls Tryz.prog f (#[iV i] ++ cb) w' fun e w2 => ∃ v, e = .returned v /\ Fm v /\ Pr i v w'.heap.size w2 /\ Below w'.heap.size w' w2
theorem vp (m : Nat) (f : FuncId) (cb : Array Value) (Pr : Nat -> Value -> Nat -> World -> Prop) (w : World) (hp : ld Pr) (hv : uP FmI f cb m Pr w) (hm : m <= 100) (eg : ∀ args w, (callFunc f args).run Tryz.prog w = .ok (.enter f args) w) :
  Calls Tryz.prog 73 #[iV m, .func (.func f) #[] cb] w (wY w m Pr) := by
 obtain ⟨i0, hi0, hz0, hz1, hz2⟩ := info_parts qf
 have HP := aB hp; clear hp
 have HV := aB hv; clear hv
 go_enter Tryz.func73, Tryz.ntmps73
 go_wp2_with (refine wpList_make_full _ (by rfl) (.tmp 7) (.tmp 7) 46 (by rfl) w.heap.size 3 i0 _ 1 Tryz.underlying46 hi0 hz0 hz1 .i64 .i64 (m : Int) (m : Int) m (by rfl) (by rfl) rfl rfl (by rw [hz2]; omega) (by unfold maxLen; omega) (aH _) ?_; intro w1 ho hg; have HO := aB ho; have HB := aB (iF hg); clear ho hg)
 generalize hX : w.heap.size = X at *
 have HX := aB hX; clear hX
 go_loopw [11] (fun i wr => ∃ (k : Nat) (xs : List Value), k <= m /\ i = iV k /\ Hid (wr.ownsRow X 3 1 (.slice (some (aV X 0)) m m) m xs) /\ Hid (∀ j < k, ∃ v, xs[j]? = some v /\ Pr j v (X + 1) wr) /\ Hid (Below X w wr) /\ Hid (X < wr.heap.size)) (fun i _ => m + 1 - (intOf i).toNat)
 case atStart =>
  have hlt : X < w1.heap.size := by
   rcases HO.out.2 with ⟨h, _⟩ | ⟨g, cap, cur, h, _, hg, _⟩
   ·cases h
   ·cases h
    exact aa hg
  exact ⟨0, _, by omega, rfl, HO.out, (fun j hj => by omega), HB.out, hlt⟩
 case round =>
  clear HO HB
  obtain ⟨k, xs, hk, rfl, HO, HQ, HB, HL⟩ := hrel
  have k0 : (0 : Int) <= (k : Int) := by omega
  by_cases hlt : k < m
  ·have k1 : (k : Int) < (m : Int) := by omega
   go_wp2_with fail
   refine (HV.out k hlt _ (by rw [HX.out]; exact HB.out)).mono ?_
   rintro e w2 ⟨v, rfl, h1, hpr, hb⟩
   obtain ⟨vy, rfl⟩ := h1
   have HPR := aB hpr; clear hpr
   have HB2 := aB hb; clear hb
   have HO2 := aB (aq HO.out HB2.out)
   have hlen := HO2.out.1
   obtain ⟨g, hge, -, hg2, hfz, hcell⟩ := gC HO2.out (by omega)
   cases hge
   obtain ⟨z0, hz0'⟩ : ∃ u, xs[k]? = some u := ⟨_, aD (by omega)⟩
   have hck : w2.cell? (aV X k) = some z0 := hcell k _ hz0'
   have hfk := hfz k
   have HO3 : Hid ((w2.setCell (aV X k) (iV vy)).ownsRow X 3 1 (.slice (some (aV X 0)) m m) m (xs.set k (iV vy))) := fi HO2.out k (iV vy)
   have HB3 : Hid (Below X w (w2.setCell (aV X k) (iV vy))) := (HB.out.trans (HB2.out.mono (aI HL.out))).setCell (aH _) _
   have HL3 : Hid (X < (w2.setCell (aV X k) (iV vy)).heap.size) := by show X < _; simp; exact hg2
   have HQ3 : Hid (∀ j < k + 1, ∃ u, (xs.set k (iV vy))[j]? = some u /\ Pr j u (X + 1) (w2.setCell (aV X k) (iV vy))) := fun j hj => by
    have hset : ∀ i u B, X + 1 <= B -> Pr i u B w2 -> Pr i u B (w2.setCell (aV X k) (iV vy)) := fun i u B hB hu => HP.out.keep i u B _ _ hu (by simp) (fun b h1 h2 => Below.heap_setCell _ _ _ _ (by show b ≠ X; omega))
    by_cases hjk : j = k
    ·subst hjk
     refine ⟨(iV vy), ?_, HP.out.mono _ _ _ _ _ (hset _ _ _ HL.out HPR.out) HL.out⟩
     rw [List.getElem?_set_self (by omega)]
    ·obtain ⟨u, hu1, hu2⟩ := HQ.out j (by omega)
     refine ⟨u, by rw [List.getElem?_set_ne (by omega)]; exact hu1, hset _ _ _ (aH _) (HP.out.keep _ _ _ _ _ hu2 HB2.out.size (fun b _ h2 => HB2.out.block b h2))⟩
   clear hz0' hcell hfz HO HQ HB HL HO2 HPR HB2 hlen
   go_wp2
   go_roundw
   case rel => exact ⟨k + 1, xs.set k (iV vy), by omega, by go_num, HO3.out, HQ3.out, HB3.out, HL3.out⟩
   case measure => simp [intOf]; omega
  ·have k1 : ¬ (k : Int) < (m : Int) := by omega
   go_wp2
   go_ret
   exact ⟨X, xs, rfl, by rw [HX.out]; exact aH _, HL.out, cE HO.out, by have := HO.out.1; omega, fun j hj => HQ.out j (by omega), by rw [HX.out]; exact HB.out⟩
theorem tE (m : Nat) (f : FuncId) (cb : Array Value) (Pr : Nat -> Value -> Nat -> World -> Prop) (w : World) (hp : ld Pr) (hv : uP FmS f cb m Pr w) (hm : m <= 100) (eg : ∀ args w, (callFunc f args).run Tryz.prog w = .ok (.enter f args) w) :
  Calls Tryz.prog 71 #[iV m, .func (.func f) #[] cb] w (wY w m Pr) := by
 obtain ⟨i0, hi0, hz0, hz1, hz2⟩ := info_parts nG
 have HP := aB hp; clear hp
 have HV := aB hv; clear hv
 go_enter Tryz.func71, Tryz.ntmps71
 go_wp2_with (refine wpList_make_full _ (by rfl) (.tmp 7) (.tmp 7) 30 (by rfl) w.heap.size 46 i0 _ 1 Tryz.underlying30 hi0 hz0 hz1 .i64 .i64 (m : Int) (m : Int) m (by rfl) (by rfl) rfl rfl (by rw [hz2]; omega) (by unfold maxLen; omega) (aH _) ?_; intro w1 ho hg; have HO := aB ho; have HB := aB (iF hg); clear ho hg)
 generalize hX : w.heap.size = X at *
 have HX := aB hX; clear hX
 go_loopw [11] (fun i wr => ∃ (k : Nat) (xs : List Value), k <= m /\ i = iV k /\ Hid (wr.ownsRow X 46 1 (.slice (some (aV X 0)) m m) m xs) /\ Hid (∀ j < k, ∃ v, xs[j]? = some v /\ Pr j v (X + 1) wr) /\ Hid (Below X w wr) /\ Hid (X < wr.heap.size)) (fun i _ => m + 1 - (intOf i).toNat)
 case atStart =>
  have hlt : X < w1.heap.size := by
   rcases HO.out.2 with ⟨h, _⟩ | ⟨g, cap, cur, h, _, hg, _⟩
   ·cases h
   ·cases h
    exact aa hg
  exact ⟨0, _, by omega, rfl, HO.out, (fun j hj => by omega), HB.out, hlt⟩
 case round =>
  clear HO HB
  obtain ⟨k, xs, hk, rfl, HO, HQ, HB, HL⟩ := hrel
  have k0 : (0 : Int) <= (k : Int) := by omega
  by_cases hlt : k < m
  ·have k1 : (k : Int) < (m : Int) := by omega
   go_wp2_with fail
   refine (HV.out k hlt _ (by rw [HX.out]; exact HB.out)).mono ?_
   rintro e w2 ⟨v, rfl, h1, hpr, hb⟩
   obtain ⟨vA, vm, vc, rfl⟩ := h1
   have HPR := aB hpr; clear hpr
   have HB2 := aB hb; clear hb
   have HO2 := aB (aq HO.out HB2.out)
   have hlen := HO2.out.1
   obtain ⟨g, hge, -, hg2, hfz, hcell⟩ := gC HO2.out (by omega)
   cases hge
   obtain ⟨z0, hz0'⟩ : ∃ u, xs[k]? = some u := ⟨_, aD (by omega)⟩
   have hck : w2.cell? (aV X k) = some z0 := hcell k _ hz0'
   have hfk := hfz k
   have HO3 : Hid ((w2.setCell (aV X k) (.slice vA vm vc)).ownsRow X 46 1 (.slice (some (aV X 0)) m m) m (xs.set k (.slice vA vm vc))) := fi HO2.out k (.slice vA vm vc)
   have HB3 : Hid (Below X w (w2.setCell (aV X k) (.slice vA vm vc))) := (HB.out.trans (HB2.out.mono (aI HL.out))).setCell (aH _) _
   have HL3 : Hid (X < (w2.setCell (aV X k) (.slice vA vm vc)).heap.size) := by show X < _; simp; exact hg2
   have HQ3 : Hid (∀ j < k + 1, ∃ u, (xs.set k (.slice vA vm vc))[j]? = some u /\ Pr j u (X + 1) (w2.setCell (aV X k) (.slice vA vm vc))) := fun j hj => by
    have hset : ∀ i u B, X + 1 <= B -> Pr i u B w2 -> Pr i u B (w2.setCell (aV X k) (.slice vA vm vc)) := fun i u B hB hu => HP.out.keep i u B _ _ hu (by simp) (fun b h1 h2 => Below.heap_setCell _ _ _ _ (by show b ≠ X; omega))
    by_cases hjk : j = k
    ·subst hjk
     refine ⟨(.slice vA vm vc), ?_, HP.out.mono _ _ _ _ _ (hset _ _ _ HL.out HPR.out) HL.out⟩
     rw [List.getElem?_set_self (by omega)]
    ·obtain ⟨u, hu1, hu2⟩ := HQ.out j (by omega)
     refine ⟨u, by rw [List.getElem?_set_ne (by omega)]; exact hu1, hset _ _ _ (aH _) (HP.out.keep _ _ _ _ _ hu2 HB2.out.size (fun b _ h2 => HB2.out.block b h2))⟩
   clear hz0' hcell hfz HO HQ HB HL HO2 HPR HB2 hlen
   go_wp2
   go_roundw
   case rel => exact ⟨k + 1, xs.set k (.slice vA vm vc), by omega, by go_num, HO3.out, HQ3.out, HB3.out, HL3.out⟩
   case measure => simp [intOf]; omega
  ·have k1 : ¬ (k : Int) < (m : Int) := by omega
   go_wp2
   go_ret
   exact ⟨X, xs, rfl, by rw [HX.out]; exact aH _, HL.out, cE HO.out, by have := HO.out.1; omega, fun j hj => HQ.out j (by omega), by rw [HX.out]; exact HB.out⟩
theorem un : (Tryz.prog.info? 30).map (fun i => (i.zero, i.size, i.bytes)) = some (some (.slice none 0 0), 1, 24) := by kernel_rfl
theorem tD (m : Nat) (f : FuncId) (cb : Array Value) (Pr : Nat -> Value -> Nat -> World -> Prop) (w : World) (hp : ld Pr) (hv : uP FmS f cb m Pr w) (hm : m <= 100) (eg : ∀ args w, (callFunc f args).run Tryz.prog w = .ok (.enter f args) w) :
  Calls Tryz.prog 69 #[iV m, .func (.func f) #[] cb] w (wY w m Pr) := by
 obtain ⟨i0, hi0, hz0, hz1, hz2⟩ := info_parts un
 have HP := aB hp; clear hp
 have HV := aB hv; clear hv
 go_enter Tryz.func69, Tryz.ntmps69
 go_wp2_with (refine wpList_make_full _ (by rfl) (.tmp 7) (.tmp 7) 31 (by rfl) w.heap.size 30 i0 _ 1 Tryz.underlying31 hi0 hz0 hz1 .i64 .i64 (m : Int) (m : Int) m (by rfl) (by rfl) rfl rfl (by rw [hz2]; omega) (by unfold maxLen; omega) (aH _) ?_; intro w1 ho hg; have HO := aB ho; have HB := aB (iF hg); clear ho hg)
 generalize hX : w.heap.size = X at *
 have HX := aB hX; clear hX
 go_loopw [11] (fun i wr => ∃ (k : Nat) (xs : List Value), k <= m /\ i = iV k /\ Hid (wr.ownsRow X 30 1 (.slice (some (aV X 0)) m m) m xs) /\ Hid (∀ j < k, ∃ v, xs[j]? = some v /\ Pr j v (X + 1) wr) /\ Hid (Below X w wr) /\ Hid (X < wr.heap.size)) (fun i _ => m + 1 - (intOf i).toNat)
 case atStart =>
  have hlt : X < w1.heap.size := by
   rcases HO.out.2 with ⟨h, _⟩ | ⟨g, cap, cur, h, _, hg, _⟩
   ·cases h
   ·cases h
    exact aa hg
  exact ⟨0, _, by omega, rfl, HO.out, (fun j hj => by omega), HB.out, hlt⟩
 case round =>
  clear HO HB
  obtain ⟨k, xs, hk, rfl, HO, HQ, HB, HL⟩ := hrel
  have k0 : (0 : Int) <= (k : Int) := by omega
  by_cases hlt : k < m
  ·have k1 : (k : Int) < (m : Int) := by omega
   go_wp2_with fail
   refine (HV.out k hlt _ (by rw [HX.out]; exact HB.out)).mono ?_
   rintro e w2 ⟨v, rfl, h1, hpr, hb⟩
   obtain ⟨vA, vm, vc, rfl⟩ := h1
   have HPR := aB hpr; clear hpr
   have HB2 := aB hb; clear hb
   have HO2 := aB (aq HO.out HB2.out)
   have hlen := HO2.out.1
   obtain ⟨g, hge, -, hg2, hfz, hcell⟩ := gC HO2.out (by omega)
   cases hge
   obtain ⟨z0, hz0'⟩ : ∃ u, xs[k]? = some u := ⟨_, aD (by omega)⟩
   have hck : w2.cell? (aV X k) = some z0 := hcell k _ hz0'
   have hfk := hfz k
   have HO3 : Hid ((w2.setCell (aV X k) (.slice vA vm vc)).ownsRow X 30 1 (.slice (some (aV X 0)) m m) m (xs.set k (.slice vA vm vc))) := fi HO2.out k (.slice vA vm vc)
   have HB3 : Hid (Below X w (w2.setCell (aV X k) (.slice vA vm vc))) := (HB.out.trans (HB2.out.mono (aI HL.out))).setCell (aH _) _
   have HL3 : Hid (X < (w2.setCell (aV X k) (.slice vA vm vc)).heap.size) := by show X < _; simp; exact hg2
   have HQ3 : Hid (∀ j < k + 1, ∃ u, (xs.set k (.slice vA vm vc))[j]? = some u /\ Pr j u (X + 1) (w2.setCell (aV X k) (.slice vA vm vc))) := fun j hj => by
    have hset : ∀ i u B, X + 1 <= B -> Pr i u B w2 -> Pr i u B (w2.setCell (aV X k) (.slice vA vm vc)) := fun i u B hB hu => HP.out.keep i u B _ _ hu (by simp) (fun b h1 h2 => Below.heap_setCell _ _ _ _ (by show b ≠ X; omega))
    by_cases hjk : j = k
    ·subst hjk
     refine ⟨(.slice vA vm vc), ?_, HP.out.mono _ _ _ _ _ (hset _ _ _ HL.out HPR.out) HL.out⟩
     rw [List.getElem?_set_self (by omega)]
    ·obtain ⟨u, hu1, hu2⟩ := HQ.out j (by omega)
     refine ⟨u, by rw [List.getElem?_set_ne (by omega)]; exact hu1, hset _ _ _ (aH _) (HP.out.keep _ _ _ _ _ hu2 HB2.out.size (fun b _ h2 => HB2.out.block b h2))⟩
   clear hz0' hcell hfz HO HQ HB HL HO2 HPR HB2 hlen
   go_wp2
   go_roundw
   case rel => exact ⟨k + 1, xs.set k (.slice vA vm vc), by omega, by go_num, HO3.out, HQ3.out, HB3.out, HL3.out⟩
   case measure => simp [intOf]; omega
  ·have k1 : ¬ (k : Int) < (m : Int) := by omega
   go_wp2
   go_ret
   exact ⟨X, xs, rfl, by rw [HX.out]; exact aH _, HL.out, cE HO.out, by have := HO.out.1; omega, fun j hj => HQ.out j (by omega), by rw [HX.out]; exact HB.out⟩
def PrI (val : Nat -> Int) (i : Nat) (v : Value) (_ : Nat) (_ : World) : Prop := v = iV (val i)
def PrR (m : Nat) (val : Nat -> Nat -> Int) (i : Nat) (v : Value) (B : Nat) (w : World) : Prop :=
 ∃ g xs, v = .slice (some (aV g 0)) m m /\ B <= g /\ g < w.heap.size /\ Rd w (some (aV g 0)) xs /\ xs.length = m /\ ∀ j < m, xs[j]? = some (iV (val i j))
def PrT (m : Nat) (val : Nat -> Nat -> Nat -> Int) (i : Nat) (v : Value) (B : Nat) (w : World) : Prop :=
 ∃ g xs, v = .slice (some (aV g 0)) m m /\ B <= g /\ g < w.heap.size /\ Rd w (some (aV g 0)) xs /\ xs.length = m /\ ∀ j < m, ∃ u, xs[j]? = some u /\ PrR m (val i) j u (g + 1) w
theorem vi (val : Nat -> Int) : ld (PrI val) := ⟨fun _ _ _ _ _ h _ _ => h, fun _ _ _ _ _ h _ => h⟩
theorem pF (m : Nat) (val : Nat -> Nat -> Int) : ld (PrR m val) := by
 refine ⟨fun i v B w w' h hs hk => ?_, fun i v B B' w h hb => ?_⟩
 ·obtain ⟨g, xs, h1, h2, h3, h4, h5, h6⟩ := h
  exact ⟨g, xs, h1, h2, by omega, h4.same hs (fun a ha _ => by cases ha; exact hk g h2 h3), h5, h6⟩
 ·obtain ⟨g, xs, h1, h2, h3⟩ := h
  exact ⟨g, xs, h1, by omega, h3⟩
theorem vh (m : Nat) (val : Nat -> Nat -> Nat -> Int) : ld (PrT m val) := by
 refine ⟨fun i v B w w' h hs hk => ?_, fun i v B B' w h hb => ?_⟩
 ·obtain ⟨g, xs, h1, h2, h3, h4, h5, h6⟩ := h
  refine ⟨g, xs, h1, h2, by omega, h4.same hs (fun a ha _ => by cases ha; exact hk g h2 h3), h5, fun j hj => ?_⟩
  obtain ⟨u, hu, hr⟩ := h6 j hj
  exact ⟨u, hu, (pF m (val i)).keep _ _ _ _ _ hr hs (fun b hb => hk b (by omega))⟩
 ·obtain ⟨g, xs, h1, h2, h3⟩ := h
  exact ⟨g, xs, h1, by omega, h3⟩
structure TbS (w : World) (n : Net) (nx : List NsC) (A : Option Addr) (c N Bn Bf Bt : Nat) (fr till : Int) : Prop where
 net : br w N n
 tab : Tab w A nx
 bn : w.cell? (aV Bn 0) = some (.slice A nx.length c)
 bf : w.cell? (aV Bf 0) = some (iV fr)
 bt : w.cell? (aV Bt 0) = some (iV till)
theorem eu {w w' : World} (hb : Below w.heap.size w w') {b : Nat} {v : Value} (h : w.cell? (aV b 0) = some v) : w'.cell? (aV b 0) = some v := (hb.cell (p := (aV b 0)) (aM w _ h)).trans h
theorem TbS.below {w w' : World} {n : Net} {nx : List NsC} {A : Option Addr} {c N Bn Bf Bt : Nat} {fr till : Int} (h : TbS w n nx A c N Bn Bf Bt fr till) (hb : Below w.heap.size w w') : TbS w' n nx A c N Bn Bf Bt fr till :=
 ⟨h.net.below hb, h.tab.below hb, eu hb h.bn, eu hb h.bf, eu hb h.bt⟩
theorem uZ (n : Net) (nx : List NsC) (A : Option Addr) (c N Bn Bc Bo Bf Bt k o : Nat) (fr till : Int) (w : World) (h : TbS w n nx A c N Bn Bf Bt fr till) (hc : w.cell? (aV Bc 0) = some (iV k)) (hoo : w.cell? (aV Bo 0) = some (iV o)) (hG : cY n) (hF : bi n nx) (hk : k < n.clss.length) (ho : o < n.offs.length) (hf1 : 0 <= fr) (hf2 : fr <= 700) (ht1 : 0 <= till) (ht2 : till <= 700) :
  uP FmI 74 #[.pointer (some (aV N 0)), .pointer (some (aV Bn 0)), .pointer (some (aV Bc 0)), .pointer (some (aV Bo 0)), .pointer (some (aV Bf 0)), .pointer (some (aV Bt 0))] n.offs.length (PrI fun d => eN n nx k o d fr till) w := by
 intro d hd w' hb
 have HT := aB (h.below hb)
 have x1 := (h.below hb).bn
 have x2 := (h.below hb).bf
 have x3 := (h.below hb).bt
 have x4 := eu hb hc
 have x5 := eu hb hoo
 have HG := aB hG; clear hG
 have HF := aB hF; clear hF
 clear h hb hc hoo
 show Calls _ _ #[iV d, .pointer (some (aV N 0)), .pointer (some (aV Bn 0)), .pointer (some (aV Bc 0)), .pointer (some (aV Bo 0)), .pointer (some (aV Bf 0)), .pointer (some (aV Bt 0))] _ _
 go_enter Tryz.func74, Tryz.ntmps74
 go_wp2_with fail
 refine (vG N n A c nx k o d fr till _ HT.out.net HT.out.tab HG.out HF.out hk ho hd hf1 hf2 ht1 ht2).mono ?_
 rintro e w1 ⟨rfl, hb⟩
 have HB := aB hb; clear hb
 go_wp2_with fail
 go_ret
 exact ⟨iV (eN n nx k o d fr till), rfl, ⟨_, rfl⟩, rfl, HB.out⟩
theorem u4 (n : Net) (nx : List NsC) (A : Option Addr) (c N Bn Bc Bf Bt k : Nat) (fr till : Int) (w : World) (h : TbS w n nx A c N Bn Bf Bt fr till) (hc : w.cell? (aV Bc 0) = some (iV k)) (hG : cY n) (hF : bi n nx) (hk : k < n.clss.length) (hf1 : 0 <= fr) (hf2 : fr <= 700) (ht1 : 0 <= till) (ht2 : till <= 700) :
  uP FmS 72 #[.pointer (some (aV N 0)), .pointer (some (aV Bn 0)), .pointer (some (aV Bc 0)), .pointer (some (aV Bf 0)), .pointer (some (aV Bt 0))] n.offs.length (PrR n.offs.length fun o d => eN n nx k o d fr till) w := by
 intro o ho w' hb
 have hb1 := ba w' (.cells #[iV o] 3)
 have HT := aB ((h.below hb).below hb1)
 have HC := aB (eu hb1 (eu hb hc))
 have x0 : (w'.alloc (.cells #[iV o] 3)).cell? (aV w'.heap.size 0) = some (iV o) := aA 0 (aC _ _)
 have n3 : (w'.alloc (.cells #[iV o] 3)).cell? (aV N 3) = some (.slice n.offA n.offs.length n.offC) := HT.out.net.box 3 _ rfl
 have HX0 := aB x0; clear x0
 have HB1 := aB hb1
 have HG := aB hG; clear hG
 have HF := aB hF; clear hF
 clear h hb hc hb1
 show Calls _ _ #[iV o, .pointer (some (aV N 0)), .pointer (some (aV Bn 0)), .pointer (some (aV Bc 0)), .pointer (some (aV Bf 0)), .pointer (some (aV Bt 0))] _ _
 go_enter Tryz.func72, Tryz.ntmps72
 go_wp2_with fail
 refine (vp n.offs.length 74 _ _ _ (vi _) (uZ n nx A c N Bn Bc w'.heap.size Bf Bt k o fr till _ HT.out HC.out HX0.out HG.out HF.out hk ho hf1 hf2 ht1 ht2) (by have := HG.out.few.2.1; omega) (fun _ _ => rfl)).mono ?_
 rintro e w1 ⟨g, xs, rfl, hg1, hg2, hrd, hlen, hxs, hb⟩
 have HB := aB (bt HB1.out hb); clear hb
 have HR : Hid (PrR n.offs.length (fun o d => eN n nx k o d fr till) o (.slice (some (aV g 0)) n.offs.length n.offs.length) w'.heap.size w1) :=
  ⟨g, xs, rfl, aG HB1.out.size hg1, hg2, hrd, hlen, fun j hj => by obtain ⟨v, h1, h2⟩ := hxs j hj; rw [h1]; exact congrArg some h2⟩
 clear hrd hlen hxs hg1 hg2
 go_wp2_with fail
 go_ret
 exact ⟨_, rfl, ⟨_, _, _, rfl⟩, HR.out, HB.out⟩
theorem u5 (n : Net) (nx : List NsC) (A : Option Addr) (c N Bn Bf Bt : Nat) (fr till : Int) (w : World) (h : TbS w n nx A c N Bn Bf Bt fr till) (hG : cY n) (hF : bi n nx) (hf1 : 0 <= fr) (hf2 : fr <= 700) (ht1 : 0 <= till) (ht2 : till <= 700) :
  uP FmS 70 #[.pointer (some (aV N 0)), .pointer (some (aV Bn 0)), .pointer (some (aV Bf 0)), .pointer (some (aV Bt 0))] n.clss.length (PrT n.offs.length fun k o d => eN n nx k o d fr till) w := by
 intro k hk w' hb
 have hb1 := ba w' (.cells #[iV k] 3)
 have HT := aB ((h.below hb).below hb1)
 have x0 : (w'.alloc (.cells #[iV k] 3)).cell? (aV w'.heap.size 0) = some (iV k) := aA 0 (aC _ _)
 have n3 : (w'.alloc (.cells #[iV k] 3)).cell? (aV N 3) = some (.slice n.offA n.offs.length n.offC) := HT.out.net.box 3 _ rfl
 have HX0 := aB x0; clear x0
 have HB1 := aB hb1
 have HG := aB hG; clear hG
 have HF := aB hF; clear hF
 clear h hb hb1
 show Calls _ _ #[iV k, .pointer (some (aV N 0)), .pointer (some (aV Bn 0)), .pointer (some (aV Bf 0)), .pointer (some (aV Bt 0))] _ _
 go_enter Tryz.func70, Tryz.ntmps70
 go_wp2_with fail
 refine (tE n.offs.length 72 _ _ _ (pF _ _) (u4 n nx A c N Bn w'.heap.size Bf Bt k fr till _ HT.out HX0.out HG.out HF.out hk hf1 hf2 ht1 ht2) (by have := HG.out.few.2.1; omega) (fun _ _ => rfl)).mono ?_
 rintro e w1 ⟨g, xs, rfl, hg1, hg2, hrd, hlen, hxs, hb⟩
 have HB := aB (bt HB1.out hb); clear hb
 have HR : Hid (PrT n.offs.length (fun k o d => eN n nx k o d fr till) k (.slice (some (aV g 0)) n.offs.length n.offs.length) w'.heap.size w1) :=
  ⟨g, xs, rfl, aG HB1.out.size hg1, hg2, hrd, hlen, hxs⟩
 clear hrd hlen hxs hg1 hg2
 go_wp2_with fail
 go_ret
 exact ⟨_, rfl, ⟨_, _, _, rfl⟩, HR.out, HB.out⟩
def rV (w : World) (n : Net) (nx : List NsC) (fr till : Int) (e : Ending) (w' : World) : Prop :=
 ∃ g xs, e = .returned (.slice (some (aV g 0)) n.clss.length n.clss.length) /\ w.heap.size <= g /\ g < w'.heap.size /\ Rd w' (some (aV g 0)) xs /\ xs.length = n.clss.length /\ (∀ k < n.clss.length, ∃ v, xs[k]? = some v /\ PrT n.offs.length (fun k o d => eN n nx k o d fr till) k v (g + 1) w') /\ Below w.heap.size w w'
theorem s4 (n : Net) (A : Option Addr) (c : Nat) (nx : List NsC) (fr till : Int) (w : World) (hn : bj w n) (hT : Tab w A nx) (hx : nx.length <= maxLen) (hk : KW w) (hs : bM n) (hF : bi n nx) (h1 : 0 <= fr) (h2 : fr < till) (h3 : till <= 600) (h4 : till - fr <= 60) :
  Calls Tryz.prog 27 #[bB n, .slice A nx.length c, iV fr, iV till] w (rV w n nx fr till) := by
 have hb : Below w.heap.size w ((((w.alloc (ae n)).alloc (.cells #[.slice A nx.length c] 30)).alloc (.cells #[iV fr] 3)).alloc (.cells #[iV till] 3)) := ((((aJ _ w).alloc (aH _) _).alloc (by simp) _).alloc (by simp; omega) _).alloc (by simp; omega) _
 have hx0 : ((((w.alloc (ae n)).alloc (.cells #[.slice A nx.length c] 30)).alloc (.cells #[iV fr] 3)).alloc (.cells #[iV till] 3)).heap[w.heap.size]? = some (ae n) := (aK _ _ _ (by simp <;> omega)).trans ((aK _ _ _ (by simp <;> omega)).trans ((aK _ _ _ (by simp)).trans (aC _ _)))
 have hx1 : ((((w.alloc (ae n)).alloc (.cells #[.slice A nx.length c] 30)).alloc (.cells #[iV fr] 3)).alloc (.cells #[iV till] 3)).heap[w.heap.size + 1]? = some (.cells #[.slice A nx.length c] 30) := by
  have := aC (w.alloc (ae n)) (.cells #[.slice A nx.length c] 30)
  rw [aT] at this
  exact (aK _ _ _ (by simp <;> omega)).trans ((aK _ _ _ (by simp)).trans this)
 have hx2 : ((((w.alloc (ae n)).alloc (.cells #[.slice A nx.length c] 30)).alloc (.cells #[iV fr] 3)).alloc (.cells #[iV till] 3)).heap[w.heap.size + 1 + 1]? = some (.cells #[iV fr] 3) := by
  have := aC ((w.alloc (ae n)).alloc (.cells #[.slice A nx.length c] 30)) (.cells #[iV fr] 3)
  rw [aT, aT] at this
  exact (aK _ _ _ (by simp)).trans this
 have hx3 : ((((w.alloc (ae n)).alloc (.cells #[.slice A nx.length c] 30)).alloc (.cells #[iV fr] 3)).alloc (.cells #[iV till] 3)).heap[w.heap.size + 1 + 1 + 1]? = some (.cells #[iV till] 3) := by
  have := aC (((w.alloc (ae n)).alloc (.cells #[.slice A nx.length c] 30)).alloc (.cells #[iV fr] 3)) (.cells #[iV till] 3)
  simpa only [aT] using this
 have HTB : Hid (TbS ((((w.alloc (ae n)).alloc (.cells #[.slice A nx.length c] 30)).alloc (.cells #[iV fr] 3)).alloc (.cells #[iV till] 3)) n nx A c w.heap.size (w.heap.size + 1) (w.heap.size + 1 + 1) (w.heap.size + 1 + 1 + 1) fr till) :=
  ⟨⟨fun i v hv => (aA _ hx0).trans hv, hn.below hb⟩, hT.below hb, aA 0 hx1, aA 0 hx2, aA 0 hx3⟩
 have HLL := aB hn.lens
 have HX := aB hx
 have HK := aB (hk.below hb)
 have HB := aB hb
 have HS := aB hs
 have HF := aB hF
 clear hb hx0 hx1 hx2 hx3 hn hT hx hk hs hF
 go_enter Tryz.func27, Tryz.ntmps27
 go_upto_region 1 with fail
 change Code.wp _ _ _ _ ((((w.alloc (ae n)).alloc (.cells #[.slice A nx.length c] 30)).alloc (.cells #[iV fr] 3)).alloc (.cells #[iV till] 3))
 generalize ((((w.alloc (ae n)).alloc (.cells #[.slice A nx.length c] 30)).alloc (.cells #[iV fr] 3)).alloc (.cells #[iV till] 3)) = W at *
 have x1 := HTB.out.bn
 have x2 := HTB.out.bf
 have x3 := HTB.out.bt
 have g1 : ¬ fr < 0 := by omega
 have g2 : ¬ till <= fr := by omega
 have g3 : ¬ (600 : Int) < till := by omega
 have g4 : ¬ (60 : Int) < till - fr := by omega
 go_wp2_with fail
 refine (fR _ n _ HTB.out.net HK.out HS.out).mono ?_
 rintro e w1 ⟨rfl, hb⟩
 have HTB1 := aB (HTB.out.below hb)
 have HB1 := aB (bt HB.out hb)
 clear hb x1 x2 x3 HTB HB
 have x1 := HTB1.out.bn
 go_wp2_with fail
 refine (mL _ n A c nx _ HTB1.out.net HTB1.out.tab HX.out HLL.out.2.2.2.1 HLL.out.2.2.2.2.1).mono ?_
 rintro e w2 ⟨rfl, hb⟩
 rw [et.2 HF.out]
 have HTB2 := aB (HTB1.out.below hb)
 have HB2 := aB (bt HB1.out hb)
 clear hb x1 HTB1 HB1
 have n5 : w2.cell? (aV w.heap.size 5) = some (.slice n.clsA n.clss.length n.clsC) := HTB2.out.net.box 5 _ rfl
 go_wp2_with fail
 refine (tD n.clss.length 70 _ _ _ (vh _ _) (u5 n nx A c w.heap.size (w.heap.size + 1) (w.heap.size + 1 + 1) (w.heap.size + 1 + 1 + 1) fr till _ HTB2.out HS.out.1.good HF.out h1 (by omega) (by omega) (by omega)) (by have := HS.out.1.cls.1; omega) (fun _ _ => rfl)).mono ?_
 rintro e w3 ⟨g, xs, rfl, hg1, hg2, hrd, hlen, hxs, hb⟩
 have HB3 := aB (bt HB2.out hb)
 have HR : Hid (rV w n nx fr till (.returned (.slice (some (aV g 0)) n.clss.length n.clss.length)) w3) := ⟨g, xs, rfl, aG HB2.out.size hg1, hg2, hrd, hlen, hxs, HB3.out⟩
 clear hg1 hg2 hrd hlen hxs hb n5
 go_wp2_with fail
 go_ret
 exact HR.out
abbrev postV (lab : List UInt8) (o d k acc : Int) : Value := .agg #[sV lab, iV o, iV d, iV k, iV acc]
structure Wd3 (w W : World) (X : Nat) (lab : List UInt8) (o d k acc : Int) (s y : Value) : Prop where
 bel : Below X w W
 post : W.heap[X + 1]? = some (.cells #[sV lab, iV o, iV d, iV k, iV acc] 42 (0, 0))
 res : W.heap[X + 1 + 1]? = some (.cells #[s] 3 (0, 0))
 err : W.heap[X + 1 + 1 + 1]? = some (.cells #[y] 38 (0, 0))
theorem Wd3.below {w W W' : World} {X : Nat} {lab : List UInt8} {o d k acc : Int} {s y : Value} (h : Wd3 w W X lab o d k acc s y) (hb : Below W.heap.size W W') : Wd3 w W' X lab o d k acc s y :=
 ⟨h.bel.trans (hb.mono (by have := aa h.post; omega)), (hb.block _ (aa h.post)).trans h.post, (hb.block _ (aa h.res)).trans h.res, (hb.block _ (aa h.err)).trans h.err⟩
theorem Wd3.new (w : World) (n : Net) (lab : List UInt8) (o d k acc : Int) : Wd3 w ((((w.alloc (ae n)).alloc (.cells #[sV lab, iV o, iV d, iV k, iV acc] 42)).alloc (.cells #[iV 0] 3)).alloc (.cells #[iV 0] 38)) w.heap.size lab o d k acc (iV 0) (iV 0) := by
 have c1 := aC (w.alloc (ae n)) (.cells #[sV lab, iV o, iV d, iV k, iV acc] 42)
 have c2 := aC ((w.alloc (ae n)).alloc (.cells #[sV lab, iV o, iV d, iV k, iV acc] 42)) (.cells #[iV 0] 3)
 have c3 := aC (((w.alloc (ae n)).alloc (.cells #[sV lab, iV o, iV d, iV k, iV acc] 42)).alloc (.cells #[iV 0] 3)) (.cells #[iV 0] 38)
 simp only [aT] at c1 c2 c3
 exact ⟨((((aJ _ w).alloc (aH _) _).alloc (by simp) _).alloc (by simp; omega) _).alloc (by simp; omega) _, (aK _ _ _ (by simp <;> omega)).trans ((aK _ _ _ (by simp)).trans c1), (aK _ _ _ (by simp)).trans c2, c3⟩
theorem Wd3.set {w W : World} {X : Nat} {lab : List UInt8} {o d k acc : Int} {s y : Value} (h : Wd3 w W X lab o d k acc s y) (s' y' : Value) : Wd3 w ((W.setCell (aV (X + 1 + 1) 0) s').setCell (aV (X + 1 + 1 + 1) 0) y') X lab o d k acc s' y' :=
 ⟨(h.bel.setCell (by simp; omega) _).setCell (by simp; omega) _, bU (bU h.post (by omega) _ _) (by omega) _ _, bU (bE h.res 0 s') (by omega) _ _, bE (bU h.err (by omega) _ _) 0 y'⟩
theorem Wd3.out {w W : World} {X : Nat} {lab : List UInt8} {o d k acc : Int} {s y : Value} (h : Wd3 w W X lab o d k acc s y) (tmps : Array Value) (h2 : tmps.getD 6 undef = .pointer (some (aV (X + 1 + 1) 0))) (h3 : tmps.getD 7 undef = .pointer (some (aV (X + 1 + 1 + 1) 0))) :
  (results Tryz.f28 tmps).run Tryz.prog W = .ok (.tuple #[s, y]) W := by
 have e1 : (loadVar 3 (aV (X + 1 + 1) 0)).run Tryz.prog W = .ok s W := by
  have := cell_of_row W _ 0 _ _ _ h.res
  simp [loadVar, go_sem, this]
 have e2 : (loadVar 38 (aV (X + 1 + 1 + 1) 0)).run Tryz.prog W = .ok y W := by
  have := cell_of_row W _ 0 _ _ _ h.err
  simp [loadVar, go_sem, this]
 have h2' : tmps[6]?.getD undef = .pointer (some (aV (X + 1 + 1) 0)) := by simpa using h2
 have h3' : tmps[7]?.getD undef = .pointer (some (aV (X + 1 + 1 + 1) 0)) := by simpa using h3
 simp [results, Tryz.results28, asAddr, h2', h3', e1, e2]
theorem wF (q r : Nat) (w : World) :
  CallsD Tryz.prog 76 #[.pointer (some (aV q 0)), .pointer (some (aV r 0))] .returning w fun e u' w' => e = .returned (.tuple #[]) /\ u' = .returning /\ w' = w := by
 refine callsD_of_wpS Tryz.func76 rfl fun c₀ cs hu => ?_
 apply wpS_seq
 apply wpS_region
 simp [wpOpsS, go_sem, recoverD, hu, Tryz.ntmps76, Exit.thenS]
 refine wpS_of_wp ?_
 go_wp2_with fail
 cases c₀
 simp_all [bodyPostS, results, Tryz.results76]
theorem oP {w' : World} {Y CB b : Nat} {v z1 z2 z3 z4 : Value} (hY : b ≠ Y) (_hC : b ≠ CB) (h : w'.cell? (aV Y 0) = some z1 /\ w'.cell? (aV Y 1) = some z2 /\ w'.cell? (aV Y 2) = some z3 /\ w'.cell? (aV CB 2) = some z4) :
  (w'.setCell (aV b 0) v).cell? (aV Y 0) = some z1 /\ (w'.setCell (aV b 0) v).cell? (aV Y 1) = some z2 /\ (w'.setCell (aV b 0) v).cell? (aV Y 2) = some z3 /\ (w'.setCell (aV b 0) v).cell? (aV CB 2) = some z4 := by
 refine ⟨?_, ?_, ?_, ?_⟩
 ·rw [World.cell?_setCell_other _ _ _ _ (by simp <;> omega)]; exact h.1
 ·rw [World.cell?_setCell_other _ _ _ _ (by simp)]; exact h.2.1
 ·rw [World.cell?_setCell_other _ _ _ _ (by simp)]; exact h.2.2.1
 ·rw [World.cell?_setCell_other _ _ _ _ (by simp)]; exact h.2.2.2
section
attribute [local go_sem] Oper.semAt_some
theorem pH {w : World} {B : Nat} {cs : Array Value} {t : TypeId} {fr : Nat × Nat} (h : w.heap[B]? = some (.cells cs t fr)) (j : Nat) (v : Value) : (w.setCell (aV B j) v).heap[B]? = some (.cells (cs.setIfInBounds j v) t fr) := by
 have hlt := aa h
 have hh : w.heap[B] = .cells cs t fr := (Array.getElem?_eq_some_iff.1 h).2
 simp only [World.setCell]
 rw [Array.getElem?_eq_getElem (by rw [Array.size_modify]; exact hlt), Array.getElem_modify_self, hh]
 rfl
theorem ip {w : World} {B C : Nat} {o : Obj} (h : w.heap[B]? = some o) (hne : B ≠ C) (j : Nat) (v : Value) : (w.setCell (aV C j) v).heap[B]? = some o := (Below.heap_setCell _ _ _ _ hne).trans h
abbrev markD (D : Nat) : Deferred := { target := .collected D, args := #[] }
def dX (b : Nat) (W : World) (Ds : List Nat) : Prop := Ds.Nodup /\ ∀ D ∈ Ds, b <= D /\ W.heap[D]? = some (.deferred (some []))
theorem dX.take {b : Nat} {W : World} {D : Nat} {Ds : List Nat} (h : dX b W (D :: Ds)) : dX b (W.putObj D (.deferred none)) Ds := by
 obtain ⟨h1, h2⟩ := h
 rw [List.nodup_cons] at h1
 refine ⟨h1.2, fun E hE => ?_⟩
 obtain ⟨h3, h4⟩ := h2 E (List.mem_cons_of_mem _ hE)
 exact ⟨h3, (World.putObj_heap_other (fun e => h1.1 (by first | (rw [<- e]; exact hE) | (rw [e]; exact hE)))).trans h4⟩
theorem iv {P : Program} {F : Fence} {n : Nat} {fn : Func} {tmps : Array Value} {R : Ending -> World -> Prop} {v : Value} {w0 : World} : ∀ (Ds : List Nat) (W : World), dX w0.heap.size W Ds -> Below w0.heap.size w0 W ->
  (∀ W', Below w0.heap.size w0 W' -> (results fn tmps).run P W' = .ok v W' /\ R (.returned v) W') -> LeavesInM F n P fn tmps R (Ds.map markD) .returning W
 | [], W, _, hb, h => by
  obtain ⟨h1, h2⟩ := h W hb
  exact ⟨v, h1, h2⟩
 | D :: Ds, W, hm, hb, h => by
  obtain ⟨h1, h2⟩ := hm.2 D (List.mem_cons_self ..)
  refine ⟨by simp, .inl ⟨_, _, rfl, run_takeDeferred h2, ?_⟩⟩
  exact iv Ds _ hm.take (hb.grown (grownBy_putObj' _ D (.deferred none)) hb.size (fun k e => by cases e; exact h1)) h
theorem dX.below {b : Nat} {W W' : World} {Ds : List Nat} (h : dX b W Ds) (hb : Below W.heap.size W W') : dX b W' Ds :=
 ⟨h.1, fun D hD => ⟨(h.2 D hD).1, (hb.block D (aa (h.2 D hD).2)).trans (h.2 D hD).2⟩⟩
theorem dX.set {b : Nat} {W : World} {Ds : List Nat} (h : dX b W Ds) {p : Nat} (hp : ∀ D ∈ Ds, D ≠ p) (v : Value) : dX b (W.setCell (aV p 0) v) Ds :=
 ⟨h.1, fun D hD => ⟨(h.2 D hD).1, (Below.heap_setCell _ _ _ _ (hp D hD)).trans (h.2 D hD).2⟩⟩
theorem dX.lt {b : Nat} {W : World} {Ds : List Nat} (h : dX b W Ds) : ∀ D ∈ Ds, D < W.heap.size := fun D hD => aa (h.2 D hD).2
structure AdS (w : World) (c : Cal) (W : World) (day : Int) (Ds : List Nat) : Prop where
 bel : Below w.heap.size w W
 box : W.heap[w.heap.size]? = some (.cells #[iV c.zone, .slice c.wA c.week.length c.wc, .slice c.hA c.hol.length c.hc] 110 (0, 0))
 day : W.heap[w.heap.size + 1]? = some (.cells #[iV day] 3 (0, 0))
 marks : dX w.heap.size W Ds
theorem AdS.below {w W W' : World} {c : Cal} {day : Int} {Ds : List Nat} (h : AdS w c W day Ds) (hb : Below W.heap.size W W') : AdS w c W' day Ds :=
 ⟨bt h.bel hb, (hb.block _ (aa h.box)).trans h.box, (hb.block _ (aa h.day)).trans h.day, h.marks.below hb⟩
theorem AdS.set {w W : World} {c : Cal} {day : Int} {Ds : List Nat} (h : AdS w c W day Ds) (x : Int) : AdS w c (W.setCell (aV (w.heap.size + 1) 0) (iV x)) x Ds :=
 ⟨h.bel.setCell (by simp) _, ip h.box (by omega) _ _, pH h.day 0 _, h.marks.set (fun D hD e => by
  obtain ⟨-, h3⟩ := h.marks.2 D hD
  rw [e, h.day] at h3
  cases h3) _⟩
theorem AdS.mark {w W : World} {c : Cal} {day : Int} {Ds : List Nat} {D : Nat} (h : AdS w c W day Ds) (hD : W.heap[D]? = some (.deferred (some []))) (h1 : w.heap.size <= D) (h2 : ∀ E ∈ Ds, E < D) : AdS w c W day (D :: Ds) :=
 ⟨h.bel, h.box, h.day, List.nodup_cons.2 ⟨fun hm => by have := h2 D hm; omega, h.marks.1⟩, fun E hE => by
  rcases List.mem_cons.1 hE with rfl | hE
  ·exact ⟨h1, hD⟩
  ·exact h.marks.2 E hE⟩
theorem AdS.grownO {w W W' : World} {c : Cal} {day : Int} {Ds : List Nat} {row : Option Nat} {b : Nat} (h : AdS w c W day Ds) (hg : W.grownBy W' row) (hr : ∀ r, row = some r -> b <= r) (h1 : w.heap.size + 1 < b) (h2 : ∀ D ∈ Ds, D < b) : AdS w c W' day Ds :=
 ⟨h.bel.grown hg h.bel.size (fun k e => by have := hr k e; omega), (hg.block _ (aa h.box) (fun e => by have := hr _ e.symm; omega)).trans h.box, (hg.block _ (aa h.day) (fun e => by have := hr _ e.symm; omega)).trans h.day,
  h.marks.1, fun D hD => ⟨(h.marks.2 D hD).1, (hg.block D (aa (h.marks.2 D hD).2) (fun e => by have := hr _ e.symm; have := h2 D hD; omega)).trans (h.marks.2 D hD).2⟩⟩
theorem ml {W W' : World} {row : Option Nat} {b B : Nat} {o : Obj} (h : W.heap[B]? = some o) (hg : W.grownBy W' row) (hr : ∀ r, row = some r -> b <= r) (hB : B < b) : W'.heap[B]? = some o :=
 (hg.block _ (aa h) (fun e => by have := hr _ e.symm; omega)).trans h
theorem AdS.setO {w W : World} {c : Cal} {day : Int} {Ds : List Nat} (h : AdS w c W day Ds) {p : Nat} (h1 : w.heap.size + 1 < p) (_h2 : w.heap.size <= p) (h3 : ∀ D ∈ Ds, D ≠ p) (v : Value) : AdS w c (W.setCell (aV p 0) v) day Ds :=
 ⟨h.bel.setCell (by simp; omega) _, ip h.box (by omega) _ _, ip h.day (by omega) _ _, h.marks.set h3 _⟩
def ed (c : Cal) (n : Nat) (d : Int) : Int × Int := match qE c n d with
 | some x => (x, 0)
 | none => (0, 20)
theorem ol (c : Cal) (d : Int) : ed c 0 d = (d, 0) := rfl
theorem oq {c : Cal} {n : Nat} {d : Int} (h : dL c 60 (d + 1) = none) : ed c (n + 1) d = (0, 20) := by unfold ed qE; rw [h]; rfl
theorem om {c : Cal} {n : Nat} {d x : Int} (h : dL c 60 (d + 1) = some x) : ed c (n + 1) d = ed c n x := by unfold ed; rw [qE, h]; rfl
theorem add_far (c : Cal) (d n : Int) (w : World) (hc : cP w c) (hv : du c = true) (hd : dr d = true) (hn : 200 < n) :
  Calls Tryz.prog 81 #[eI c, iV d, iV n] w fun e w' => e = .returned (.tuple #[iV 0, iV 1]) /\ Below w.heap.size w w' := by
 have HV := aB hv
 have HDR := aB hd
 have HC := aB hc
 clear hc hv hd
 have HX : Hid (((w.alloc (.cells #[iV c.zone, .slice c.wA c.week.length c.wc, .slice c.hA c.hol.length c.hc] 110)).alloc (.cells #[iV d] 3)).heap[w.heap.size]? = some (.cells #[iV c.zone, .slice c.wA c.week.length c.wc, .slice c.hA c.hol.length c.hc] 110)) := (aK _ _ _ (by simp)).trans (aC _ _)
 have H1 : Hid (((w.alloc (.cells #[iV c.zone, .slice c.wA c.week.length c.wc, .slice c.hA c.hol.length c.hc] 110)).alloc (.cells #[iV d] 3)).heap[w.heap.size + 1]? = some (.cells #[iV d] 3 (0, 0))) := by
  have := aC (w.alloc (.cells #[iV c.zone, .slice c.wA c.week.length c.wc, .slice c.hA c.hol.length c.hc] 110)) (.cells #[iV d] 3)
  rwa [aT] at this
 have HB0 : Hid (Below w.heap.size w ((w.alloc (.cells #[iV c.zone, .slice c.wA c.week.length c.wc, .slice c.hA c.hol.length c.hc] 110)).alloc (.cells #[iV d] 3))) := ((aJ _ w).alloc (aH _) _).alloc (by simp) _
 go_enter Tryz.func81, Tryz.ntmps81
 go_upto_region 1 with fail
 change Code.wp _ _ _ _ ((w.alloc (.cells #[iV c.zone, .slice c.wA c.week.length c.wc, .slice c.hA c.hol.length c.hc] 110)).alloc (.cells #[iV d] 3))
 generalize ((w.alloc (.cells #[iV c.zone, .slice c.wA c.week.length c.wc, .slice c.hA c.hol.length c.hc] 110)).alloc (.cells #[iV d] 3)) = W0 at *
 have k0 : W0.cell? (aV w.heap.size 0) = some (iV c.zone) := aA 0 HX.out
 have k1 : W0.cell? (aV w.heap.size 1) = some (.slice c.wA c.week.length c.wc) := aA 1 HX.out
 have k2 : W0.cell? (aV w.heap.size 2) = some (.slice c.hA c.hol.length c.hc) := aA 2 HX.out
 have kd : W0.cell? (aV (w.heap.size + 1) 0) = some (iV d) := aA 0 H1.out
 go_wp2_with fail
 refine (dU c _ (HC.out.below HB0.out)).mono ?_
 rintro e w1 ⟨rfl, hb⟩
 rw [HV.out]
 have H11 := aB (bF (w := w) H1.out hb)
 have HB1 := aB (HB0.out.trans (hb.mono HB0.out.size))
 clear hb HX H1 HB0 k0 k1 k2 kd
 have kd : w1.cell? (aV (w.heap.size + 1) 0) = some (iV d) := aA 0 H11.out
 go_wp2_with fail
 refine (fh d _).mono ?_
 rintro e w2 ⟨rfl, rfl⟩
 rw [HDR.out]
 go_wp2_with fail
 go_ret2
 exact ⟨rfl, HB1.out⟩
theorem qD (c : Cal) (d : Int) (n : Nat) (w : World) (hc : cP w c) (hv : du c = true) (hd : dr d = true) (hn : n <= 200) :
  Calls Tryz.prog 81 #[eI c, iV d, iV n] w fun e w' => e = .returned (.tuple #[iV (ed c n d).1, iV (ed c n d).2]) /\ Below w.heap.size w w' := by
 have HV := aB hv
 have HZ := aB (cV hv)
 have HDR := aB hd
 unfold dr at hd
 simp only [Bool.and_eq_true, decide_eq_true_eq] at hd
 obtain ⟨d1, d2⟩ := hd
 have HC := aB hc
 clear hc hv
 have HX : Hid (((w.alloc (.cells #[iV c.zone, .slice c.wA c.week.length c.wc, .slice c.hA c.hol.length c.hc] 110)).alloc (.cells #[iV d] 3)).heap[w.heap.size]? = some (.cells #[iV c.zone, .slice c.wA c.week.length c.wc, .slice c.hA c.hol.length c.hc] 110)) := (aK _ _ _ (by simp)).trans (aC _ _)
 have H1 : Hid (((w.alloc (.cells #[iV c.zone, .slice c.wA c.week.length c.wc, .slice c.hA c.hol.length c.hc] 110)).alloc (.cells #[iV d] 3)).heap[w.heap.size + 1]? = some (.cells #[iV d] 3 (0, 0))) := by
  have := aC (w.alloc (.cells #[iV c.zone, .slice c.wA c.week.length c.wc, .slice c.hA c.hol.length c.hc] 110)) (.cells #[iV d] 3)
  rwa [aT] at this
 have HB0 : Hid (Below w.heap.size w ((w.alloc (.cells #[iV c.zone, .slice c.wA c.week.length c.wc, .slice c.hA c.hol.length c.hc] 110)).alloc (.cells #[iV d] 3))) := ((aJ _ w).alloc (aH _) _).alloc (by simp) _
 refine eT Tryz.func81 rfl ?_
 simp only [Tryz.ntmps81, List.size_toArray, List.length_cons, List.length_nil, Nat.reduceAdd, Nat.reduceSub, Array.replicate_succ, Array.replicate_zero, List.push_toArray, List.append_toArray, List.nil_append, List.cons_append]
 go_upto_region 1 with fail
 change Code.wp _ _ _ _ ((w.alloc (.cells #[iV c.zone, .slice c.wA c.week.length c.wc, .slice c.hA c.hol.length c.hc] 110)).alloc (.cells #[iV d] 3))
 generalize ((w.alloc (.cells #[iV c.zone, .slice c.wA c.week.length c.wc, .slice c.hA c.hol.length c.hc] 110)).alloc (.cells #[iV d] 3)) = W0 at *
 have k0 : W0.cell? (aV w.heap.size 0) = some (iV c.zone) := aA 0 HX.out
 have k1 : W0.cell? (aV w.heap.size 1) = some (.slice c.wA c.week.length c.wc) := aA 1 HX.out
 have k2 : W0.cell? (aV w.heap.size 2) = some (.slice c.hA c.hol.length c.hc) := aA 2 HX.out
 have kd : W0.cell? (aV (w.heap.size + 1) 0) = some (iV d) := aA 0 H1.out
 go_wp2_with fail
 refine (dU c _ (HC.out.below HB0.out)).mono ?_
 rintro e w1 ⟨rfl, hb⟩
 rw [HV.out]
 have HA1 : Hid (AdS w c w1 d []) := ⟨HB0.out.trans (hb.mono HB0.out.size), bF (w := w) HX.out hb, bF (w := w) H1.out hb, List.nodup_nil, fun D hD => by cases hD⟩
 clear hb HX H1 HB0 k0 k1 k2 kd
 have k0 : w1.cell? (aV w.heap.size 0) = some (iV c.zone) := aA 0 HA1.out.box
 have k1 : w1.cell? (aV w.heap.size 1) = some (.slice c.wA c.week.length c.wc) := aA 1 HA1.out.box
 have k2 : w1.cell? (aV w.heap.size 2) = some (.slice c.hA c.hol.length c.hc) := aA 2 HA1.out.box
 have kd : w1.cell? (aV (w.heap.size + 1) 0) = some (iV d) := aA 0 HA1.out.day
 have hn0 : (0 : Int) <= (n : Int) := by omega
 have hn1 : (n : Int) <= 200 := by omega
 go_wp2_with fail
 refine (fh d _).mono ?_
 rintro e w2 ⟨rfl, rfl⟩
 rw [HDR.out]
 go_wp2_with fail
 clear k0 k1 k2 kd
 refine wp_loop (fun a W => ∃ (k : Nat) (day : Int) (Ds : List Nat) (u8 u9 u20 u21 u22 u24 u25 u28 u29 u30 u31 u32 u33 u34 u35 u36 u37 u38 : Value), k <= n /\ AdS w c W day Ds /\ ed c n d = ed c (n - k) day /\ -1000000 <= day /\ day <= 1000000 + 60 * k /\
  a = { tmps := #[eI c, iV d, iV n, .pointer (some (aV w.heap.size 0)), .pointer (some (aV (w.heap.size + 1) 0)), undef, iV 0, iV 0, u8, u9, .agg #[iV c.zone, .slice c.wA c.week.length c.wc, .slice c.hA c.hol.length c.hc], .bool true, .bool false, .bool false, iV d, .bool true, .bool false, .bool false, .bool false, iV n, u20, u21, u22, iV n, u24, u25, iV n, iV k, u28, u29, u30, u31, u32, u33, u34, u35, u36, u37, u38], defers := Ds.map markD })
  (fun a _ => n + 1 - (intOf (a.tmps.getD 27 undef)).toNat) ?start ?round
 case start => exact ⟨0, d, [], _, _, _, _, _, _, _, _, _, _, _, _, _, _, _, _, _, _, by omega, HA1.out, rfl, d1, by omega, rfl⟩
 case round =>
  rintro a W ⟨k, day, Ds, u8, u9, u20, u21, u22, u24, u25, u28, u29, u30, u31, u32, u33, u34, u35, u36, u37, u38, hk, hA, hR, y1, y2, rfl⟩
  have HA := aB hA
  have HR := aB hR
  have hkz : (0 : Int) <= (k : Int) := by omega
  clear hA hR
  by_cases hlt : k < n
  case neg =>
   obtain rfl : k = n := by omega
   have hk1 : ¬ (k : Int) < (k : Int) := by omega
   have kd : W.cell? (aV (w.heap.size + 1) 0) = some (iV day) := aA 0 HA.out.day
   have HRE : Hid (ed c k d = (day, 0)) := by
    show _ = _
    rw [HR.out, Nat.sub_self]
    rfl
   go_wp2_with fail
   refine iv Ds _ HA.out.marks HA.out.bel (fun W' hb' => ⟨by simp [results, Tryz.results81]; rfl, ?_, hb'⟩)
   rw [HRE.out]
  have HLT := aB hlt
  have hk1 : (k : Int) < (n : Int) := by omega
  have H8 := aB (aC W (.cells #[oV false] 4))
  have HA8 := aB (HA.out.below (ba W (.cells #[oV false] 4)))
  have hz1 : w.heap.size + 1 < W.heap.size := aa HA.out.day
  have k0 : (W.alloc (.cells #[oV false] 4)).cell? (aV w.heap.size 0) = some (iV c.zone) := aA 0 HA8.out.box
  have k1 : (W.alloc (.cells #[oV false] 4)).cell? (aV w.heap.size 1) = some (.slice c.wA c.week.length c.wc) := aA 1 HA8.out.box
  have k2 : (W.alloc (.cells #[oV false] 4)).cell? (aV w.heap.size 2) = some (.slice c.hA c.hol.length c.hc) := aA 2 HA8.out.box
  have kd : (W.alloc (.cells #[oV false] 4)).cell? (aV (w.heap.size + 1) 0) = some (iV day) := aA 0 HA8.out.day
  go_wp2_with fail
  refine (jP c (day + 1) 60 _ (HC.out.below HA8.out.bel) HV.out).mono ?_
  rintro e w2 ⟨P, Q, B1, B2, B3, rfl, hwd, hb, hfr⟩
  have HWD := aB hwd
  have HA2 := aB (HA8.out.below hb)
  have H82 := aB (bF (w := w) H8.out hb)
  have hz2 : W.heap.size < w2.heap.size := aa H82.out
  have HML := aB HA.out.marks.lt
  clear hwd hb hfr H8 HA8 k0 k1 k2 kd
  go_wp2_with fail
  have HWN := aB (jQ c 60 (day + 1))
  refine (wpIn_wide (n := 9)).1 (wpIn_rangeFunc_ownF (F := Fence.wide) (n := 9) rfl (by omega) (gf := 179) (lb := #[.pointer (some (aV B1 0)), .pointer (some (aV B2 0)), .pointer (some (aV B3 0))]) rfl trivial (enters_of Tryz.func179 (by kernel_rfl) rfl)
   (jY c P Q B1 B2 B3 (day + 1) 60 w2 HWD.out HZ.out.2.2.2.2 (by omega) (by omega) (by omega) (by omega)) oI (oJ (qS HWD.out)) (aJ _ _) (fun _ => rfl)
   (fun pre X => pre = [] /\ AdS w c X day Ds /\ X.heap[W.heap.size]? = some (.cells #[oV false] 4 (0, 0)))
   (fun cd pre X => cd = .exit 2 /\ ∃ x, pre = [x] /\ AdS w c X x.1 Ds /\ X.heap[W.heap.size]? = some (.cells #[oV true] 4 (0, 0)))
   (fun s A B row hs hg hr => ⟨hs.1, AdS.grownO hs.2.1 hg (fun r e => (hr r e).1) (by omega) (fun D hD => by have := HML.out D hD; omega), ml hs.2.2 hg (fun r e => (hr r e).1) hz2⟩)
   (fun cd s A B row hs hg hr => ⟨hs.1, by obtain ⟨x, h1, h2, h3⟩ := hs.2; exact ⟨x, h1, AdS.grownO h2 hg (fun r e => (hr r e).1) (by omega) (fun D hD => by have := HML.out D hD; omega), ml h3 hg (fun r e => (hr r e).1) hz2⟩⟩)
   ⟨rfl, HA2.out, H82.out⟩
   (fun x => { tmps := #[eI c, iV d, iV n, .pointer (some (aV w.heap.size 0)), .pointer (some (aV (w.heap.size + 1) 0)), undef, iV 0, iV 0, .pointer (some (aV W.heap.size 0)), iV x.1, .agg #[iV c.zone, .slice c.wA c.week.length c.wc, .slice c.hA c.hol.length c.hc], .bool true, .bool false, .bool false, iV d, .bool true, .bool false, .bool false, .bool false, iV n, u20, u21, u22, iV n, u24, u25, iV n, iV k, .bool true, .agg #[iV c.zone, .slice c.wA c.week.length c.wc, .slice c.hA c.hol.length c.hc], iV day, iV (day + 1), .func (.func 179) #[] #[.pointer (some (aV B1 0)), .pointer (some (aV B2 0)), .pointer (some (aV B3 0))], iV x.1, u34, u35, u36, u37, u38], defers := [] }) ?assign ?body ?done ?stop)
  case assign =>
   intro l x W K hK
   gi_wp2
   exact hK
  case body =>
   rintro l pre x X ⟨rfl, hA, h8⟩ _
   have HAX := aB hA
   have H8X := aB h8
   have hc4 : X.cell? (aV (w.heap.size + 1) 0) = some (iV day) := aA 0 hA.day
   have hf4 := ac hA.day 0
   have h8y : (X.setCell (aV (w.heap.size + 1) 0) (iV x.1)).heap[W.heap.size]? = some (.cells #[oV false] 4 (0, 0)) := ip h8 (by omega) _ _
   have hc5 : (X.setCell (aV (w.heap.size + 1) 0) (iV x.1)).cell? (aV W.heap.size 0) = some (oV false) := aA 0 h8y
   have hf5 := ac h8y 0
   have hne : W.heap.size ≠ w.heap.size + 1 := by omega
   have hne' : w.heap.size + 1 ≠ W.heap.size := by omega
   have H8Y := aB h8y
   clear hA h8 h8y
   gi_wp2
   refine ⟨(KeepsOthers.setCell _ _ _).trans (KeepsOthers.setCell _ _ _), rfl, x, rfl, ?_, pH H8Y.out 0 _⟩
   exact AdS.setO (HAX.out.set x.1) (by omega) (by omega) (fun D hD => by have := HML.out D hD; omega) (oV true)
  case done =>
   rintro E xs X hD hS ⟨rfl, hA, h8⟩ hK
   have HAX := aB hA
   have kf : X.cell? (aV W.heap.size 0) = some (oV false) := aA 0 h8
   have HN : Hid (ed c n d = (0, 20)) := by
    show _ = _
    rw [HR.out, show n - k = (n - k - 1) + 1 by have := HLT.out; omega]
    exact oq (HWN.out.2 hS.symm)
   have HM : Hid (AdS w c X day (E :: Ds)) := HAX.out.mark hK (by omega) (fun F hF => by have := HML.out F hF; omega)
   clear hS hK hA h8 HAX
   go_wp2
   refine iv (E :: Ds) _ HM.out.marks HM.out.bel (fun W' hb' => ⟨by simp [results, Tryz.results81]; rfl, ?_, hb'⟩)
   rw [HN.out]
  case stop =>
   rintro E cd pre X hD hS ⟨rfl, ⟨x, rfl, hA, h8⟩⟩ hK
   have kf : X.cell? (aV W.heap.size 0) = some (oV true) := aA 0 h8
   have HNX : Hid (dL c 60 (day + 1) = some x.1) := by
    obtain ⟨y, p', t, he, ht⟩ := hS
    exact HWN.out.1 x.1 t (by simpa [jF] using ht)
   have HM : Hid (AdS w c X x.1 (E :: Ds)) := hA.mark hK (by omega) (fun F hF => by have := HML.out F hF; omega)
   clear hS hK hA h8
   gi_wp2
   go_wp2
   have hx := dK HNX.out
   refine ⟨⟨k + 1, x.1, E :: Ds, _, _, _, _, _, _, _, _, _, _, _, _, _, _, _, _, _, _, by have := HLT.out; omega, HM.out, ?_, by omega, by push_cast; omega, rfl⟩, ?_⟩
   ·rw [HR.out, show n - k = (n - (k + 1)) + 1 by have := HLT.out; omega]
    exact om HNX.out
   ·have := HLT.out
    simp [intOf]
    omega
end
theorem ve (n : Net) (nx : List NsC) (canc : List Int) (dst : Int) (it : Itm) : (gy n nx canc dst it).stops.dropLast = it.stops.dropLast ++ [{ aj it.stops with depart := it.leave, line := it.line }] := qh it
theorem kJ.same {n : Net} {nx : List NsC} {canc : List Int} {dst t : Int} {it x : Itm} (h : kJ n nx canc dst t it x) : eZ it x := by
 induction h with
 | stay _ => exact eZ.refl _
 | @go it _ _ _ _ ih => exact eZ.trans (b := gy n nx canc dst it) ⟨rfl, rfl, rfl, rfl⟩ ih
theorem ni {n : Net} {nx : List NsC} (hG : cY n) (hF : bi n nx) {dst : Nat} (hd : dst < n.offs.length) : ∀ (f o : Nat) (t : Int) (it e : Itm) (w : List St), bA n nx dst f o t = (0, w) -> o < n.offs.length -> kJ n nx [] (dst : Int) kI it e -> dF n nx [] (dst : Int) it -> it.lost = false -> it.holds = 0 -> it.stops ≠ [] ->
      aj it.stops = ⟨o, t, -1, -1⟩ -> gP it <= t -> e.stops = it.stops.dropLast ++ w
 | f, o, t, it, e, w, h, ho, hm, hdec, hl, hh, hne, hlast, hsin => by
  have hstop : o = dst -> it.line = -1 := fun ho2 => by
   rw [hdec.1]
   unfold fv
   rw [if_pos (.inr (by rw [hlast, ho2]))]
  by_cases ho2 : o = dst
  ·have hw : w = [⟨o, t, -1, -1⟩] := by
    cases f with
    | zero => rw [bA, if_pos ho2] at h; exact (congrArg Prod.snd h).symm
    | succ f => rw [bA, if_pos ho2] at h; exact (congrArg Prod.snd h).symm
   have h1 := hstop ho2
   have he : e = it := by
    cases hm with
    | stay _ => rfl
    | go g _ _ => have := g.1; omega
   rw [he, hw, <- hlast]
   exact lP hne
  ·cases f with
   | zero =>
    exfalso
    rw [bA, if_neg ho2] at h
    split at h
    ·cases congrArg Prod.fst h
    ·simp only at h
     split at h
     ·cases congrArg Prod.fst h
     ·rename_i g
      exact g (congrArg Prod.fst h)
   | succ f =>
    rw [bA, if_neg ho2] at h
    split at h
    ·cases congrArg Prod.fst h
    ·rename_i hnx
     simp only at h
     split at h
     case isFalse => rename_i g; exact absurd (congrArg Prod.fst h) g
     rename_i hdp
     split at h
     case isFalse => rename_i g; exact absurd (congrArg Prod.fst h) g
     rename_i hrec
     have hw := congrArg Prod.snd h
     simp only at hw
     rcases kP hF ho hd with e1 | ⟨e1, e2, e3⟩
     ·exact absurd e1 hnx
     have hfrm : (af n (aX nx o dst).toNat).frm.toNat = o := by rw [e3]; omega
     have hOff := hG.off _ (aF (bd ho))
     have hrd : t <= ax (ap n o) t := by
      unfold ax
      have : 0 <= (ap n o).passes * (ap n o).minutes := Int.mul_nonneg (by omega) (by omega)
      omega
     have hfr : eP n it = ax (ap n o) t := by
      unfold eP
      rw [hlast]
      show max (ax (ap n o) t) (gP it) = _
      omega
     have hdt : eh n (aX nx o dst) (ax (ap n o) t) = aZ (calAt n o) (af n (aX nx o dst).toNat) (ax (ap n o) t) := by
      unfold eh
      rw [hfrm]
     have hg : jk n nx [] (dst : Int) it (aX nx o dst) (aZ (calAt n o) (af n (aX nx o dst).toNat) (ax (ap n o) t)).1 := ⟨hl, by rw [hlast]; show (o : Int) ≠ dst; omega, by rw [hlast]; rfl, by simp, e1, by
      rw [hh, hfr, bR, hdt, if_pos hdp]⟩
     have hdr := iE hg
     have hli : it.line = aX nx o dst := by rw [hdec.1, hdr]
     have hlv : it.leave = (aZ (calAt n o) (af n (aX nx o dst).toNat) (ax (ap n o) t)).1 := by rw [hdec.2, hdr]
     have hdo := kD (v := (eh n (aX nx o dst) (ax (ap n o) t)).1) (t := ax (ap n o) t) hG e1 e2 (by rw [hdt, <- hdp])
     rw [hdt] at hdo
     have hL := hG.lin _ (aF (bC (n := n) (l := (aX nx o dst).toNat) (by omega)))
     cases hm with
     | stay g => exact absurd ⟨by rw [hli]; exact e1, by rw [hlv]; unfold kI; omega⟩ g
     | go _ _ hm2 =>
      have hs2 : aj (gy n nx [] (dst : Int) it).stops = ⟨((af n (aX nx o dst).toNat).to.toNat : Int), (aZ (calAt n o) (af n (aX nx o dst).toNat) (ax (ap n o) t)).1 + (af n (aX nx o dst).toNat).travel, -1, -1⟩ := by
       show aj (it.stops.dropLast ++ [_] ++ [_]) = _
       rw [i8, hli, hlv, show (((af n (aX nx o dst).toNat).to.toNat : Nat) : Int) = (af n (aX nx o dst).toNat).to by omega]
      have := ni hG hF hd f (af n (aX nx o dst).toNat).to.toNat _ (gy n nx [] (dst : Int) it) e _ (by rw [<- hrec]) (by omega) hm2 (fu _ _ _ _ _) hl rfl (by unfold gy aY cw; simp) hs2 (by
       show gP it <= _
       omega)
      rw [this, ve, <- hw, hlast, hli, hlv]
      simp
theorem sR {n : Net} {nx : List NsC} (hG : cY n) (hF : bi n nx) {p : Ded} {h : Hst} {o d : Nat} {w : List St} (hk : p.kind = 1) (hr : cX n nx [p] = some h) (ho : p.post.frm = (o : Int)) (hd : p.post.dst = (d : Int)) (ho1 : o < n.offs.length) (hd1 : d < n.offs.length) (hw : bA n nx d 19 o p.post.acc = (0, w)) :
  ∃ e, h.items = [e] /\ e.stops = w /\ e.lost = false /\ e.labs = [p.post.label] /\ e.since = [p.post.acc] /\ e.post = p.post := by
 obtain ⟨e, he, hm⟩ := mi hk hr
 have hs := hm.same
 rw [hd] at hm
 have := ni hG hF hd1 19 o p.post.acc _ e w hw ho1 hm (fu _ _ _ _ _) rfl rfl (by unfold aY gT; simp) (by show aj [_] = _; rw [ho]; rfl) (Int.le_refl _)
 exact ⟨e, he, by rw [this]; rfl, hs.lost, hs.labs, hs.since, hs.post⟩
def xf (n : Net) (nx : List NsC) (it : Itm) : Prop := ∃ h e, cX n nx [gi it.post] = some h /\ h.items = [e] /\ cr (bP it) = cr (bP e)
theorem uB {n : Net} {nx : List NsC} (hG : cY n) (hF : bi n nx) {ds : List Ded} {h : Hst} (hr : cX n nx ds = some h) (hd : bK n [] 0 ds) {it : Itm} (hi : it ∈ h.items) (hc : xf n nx it) {o d : Nat} {w : List St} (ho : it.post.frm = (o : Int)) (hdst : it.post.dst = (d : Int)) (hw : bA n nx d 19 o it.post.acc = (0, w)) :
  it.stops = w /\ it.lost = false /\ it.labs = [it.post.label] := by
 obtain ⟨H, -⟩ := gG hG hF hr hd
 obtain ⟨h2, e, hr2, he, ht⟩ := hc
 have hp := H.pst it hi
 obtain ⟨H2, -⟩ := gG hG hF hr2 (pM hp)
 have hei : e ∈ h2.items := by rw [he]; exact aR.2 rfl
 have ho1 : o < n.offs.length := by have := hp.2.1; omega
 have hd1 : d < n.offs.length := by have := hp.2.2.1; omega
 obtain ⟨e', he', w1, w2, w3, w4, -⟩ := sR hG hF (p := gi it.post) rfl hr2 ho hdst ho1 hd1 hw
 rw [he] at he'
 cases he'
 obtain ⟨t1, t2, t3, t4, -⟩ := pz (H.item it hi) (H2.item e hei) (fE H hi) (fE H2 hei) ht
 exact ⟨by rw [t2, w1], by rw [t1, w2], by rw [t4, w3]; rfl⟩
structure DaC where
 rows : List NsC
 A : Option Addr
 c : Nat
abbrev slD (x : DaC) : Value := .slice x.A x.rows.length x.c
structure qM (w : World) (D : Option Addr) (ds : List DaC) : Prop where
 rd : Rd w D (ds.map slD)
 row : ∀ r ∈ ds, Tab w r.A r.rows /\ r.rows.length <= 1000000
theorem qM.below {w w' : World} {D : Option Addr} {ds : List DaC} (h : qM w D ds) (hb : Below w.heap.size w w') : qM w' D ds := ⟨h.rd.below hb, fun r hr => ⟨(h.row r hr).1.below hb, (h.row r hr).2⟩⟩
def Sq (m : Nat) (rows : List NsC) : Prop := rows.length = m /\ ∀ r ∈ rows, r.ns.length = m
theorem lS {α : Type} {l : List α} {x : α} (h : x ∈ l) : ∃ i : Nat, l[i]? = some x := by
 obtain ⟨i, hi, rfl⟩ := List.mem_iff_getElem.1 h
 exact ⟨i, aD hi⟩
structure DayAt (w0 : World) (dv : Value) (k o d : Nat) (pr : Int) : Prop where
 at_ : ∃ D1 D2 dl dc E1 E2 el ec F1 F2 fl fc, dv = .slice (some (aV D1 D2)) dl dc /\ k < dl /\ o < el /\ d < fl /\ dl <= 1000 /\ el <= 1000 /\ fl <= 1000 /\ D1 < w0.heap.size /\ E1 < w0.heap.size /\ F1 < w0.heap.size /\ w0.cell? (aV D1 (D2 + k)) = some (.slice (some (aV E1 E2)) el ec) /\ w0.cell? (aV E1 (E2 + o)) = some (.slice (some (aV F1 F2)) fl fc) /\ w0.cell? (aV F1 (F2 + d)) = some (iV pr)
theorem wI {w : World} {D : Option Addr} {dc : Nat} {ds : List DaC} (h : qM w D ds) (hd : ds.length <= 1000) {k o d : Nat} {x : DaC} {r : NsC} {pr : Int} (h1 : ds[k]? = some x) (h2 : x.rows[o]? = some r) (h3 : r.ns[d]? = some pr) (hl1 : x.rows.length <= 1000) (hl2 : r.ns.length <= 1000) : DayAt w (.slice D ds.length dc) k o d pr := by
 have k1 := (aE.1 h1).1
 have k2 := (aE.1 h2).1
 have k3 := (aE.1 h3).1
 obtain ⟨D1, D2, hD, hD1, hDc⟩ := h.rd.get (i := k) (by simpa using k1)
 obtain ⟨hx, -⟩ := h.row x (aF h1)
 obtain ⟨E1, E2, hE, hE1, hEc⟩ := hx.rd.get (i := o) (by simpa using k2)
 obtain ⟨hr, -⟩ := hx.row r (aF h2)
 obtain ⟨F1, F2, hF, hF1, hFc⟩ := hr.get (i := d) (by simpa using k3)
 refine ⟨D1, D2, ds.length, dc, E1, E2, x.rows.length, x.c, F1, F2, r.ns.length, r.c, by rw [hD], k1, k2, k3, hd, hl1, hl2, hD1, hE1, hF1, ?_, ?_, ?_⟩
 ·have := hDc k (slD x) (by rw [aS, h1]; rfl)
  rw [this, slD, hE]
 ·have := hEc o (slI r) (by rw [aS, h2]; rfl)
  rw [this, slI, hF]
 ·exact hFc d (iV pr) (by rw [aS, h3]; rfl)
theorem iY {α : Type} {P : Nat -> α -> Prop} : ∀ (m : Nat), (∀ k < m, ∃ x, P k x) -> ∃ l : List α, l.length = m /\ ∀ k x, l[k]? = some x -> P k x
 | 0, _ => ⟨[], rfl, fun k x h => by simp at h⟩
 | m + 1, h => by
  obtain ⟨l, h1, h2⟩ := iY m (fun k hk => h k (by omega))
  obtain ⟨x, hx⟩ := h m (by omega)
  refine ⟨l ++ [x], by simp [h1], fun k y hy => ?_⟩
  by_cases hk : k < m
  ·rw [List.getElem?_append_left (by omega)] at hy
   exact h2 k y hy
  ·by_cases he : k = m
   ·subst he
    rw [List.getElem?_append_right (by omega), h1, Nat.sub_self] at hy
    obtain rfl : x = y := by simpa using hy
    exact hx
   ·rw [List.getElem?_eq_none (by simp; omega)] at hy
    cases hy
def TabV (n : Net) (val : Nat -> Nat -> Nat -> Int) (ds : List DaC) : Prop :=
 ds.length = n.clss.length /\ ∀ k x, ds[k]? = some x -> x.rows.length = n.offs.length /\ ∀ o r, x.rows[o]? = some r -> r.ns.length = n.offs.length /\ ∀ d y, r.ns[d]? = some y -> y = val k o d
theorem mz {α β : Type} {f : α -> β} {l : List α} {xs : List β} (h1 : l.length = xs.length) (h2 : ∀ (k : Nat) (x : α), l[k]? = some x -> xs[k]? = some (f x)) : xs = l.map f := by
 apply List.ext_getElem?
 intro i
 by_cases hi : i < l.length
 ·rw [h2 i l[i] (aD hi), aS, aD hi]
  rfl
 ·rw [List.getElem?_eq_none (by omega), List.getElem?_eq_none (by simp; omega)]
def ig (B : Nat) (w W : World) : Prop := w.heap.size <= W.heap.size /\ ∀ b, B <= b -> b < w.heap.size -> W.heap[b]? = w.heap[b]?
theorem ig.refl (B : Nat) (w : World) : ig B w w := ⟨aH _, fun _ _ _ => rfl⟩
theorem ig.mono {B B' : Nat} {w W : World} (h : ig B w W) (hb : B <= B') : ig B' w W := ⟨h.1, fun b h1 h2 => h.2 b (by omega) h2⟩
theorem ig.rd {B g : Nat} {w W : World} {xs : List Value} (h : ig B w W) (hg : B <= g) (hl : g < w.heap.size) (hr : Rd w (some (aV g 0)) xs) : Rd W (some (aV g 0)) xs := hr.same h.1 (fun a ha _ => by cases ha; exact h.2 g hg hl)
theorem prr_row {m : Nat} {val : Nat -> Nat -> Int} {i : Nat} {v : Value} {B : Nat} {w : World} (h : PrR m val i v B w) (hv : ∀ j < m, I64 (val i j)) (hm : m <= maxLen) :
  ∃ r : NsC, v = slI r /\ r.ns.length = m /\ (∀ d y, r.ns[d]? = some y -> y = val i d) /\ ∀ W, ig B w W -> (Rd W r.A (r.ns.map iV) /\ (∀ n ∈ r.ns, I64 n) /\ r.ns.length <= maxLen) := by
 obtain ⟨g, xs, rfl, hg, hgl, hr, hl, hx⟩ := h
 have e : xs = ((List.range m).map (val i)).map iV := by
  apply List.ext_getElem?
  intro j
  by_cases hj : j < m
  ·rw [hx j hj]
   simp [List.getElem?_range hj]
  ·rw [List.getElem?_eq_none (by omega), List.getElem?_eq_none (by simp; omega)]
 refine ⟨⟨(List.range m).map (val i), some (aV g 0), m⟩, by simp [slI], by simp, fun d y hd => ?_, fun W hW => ⟨by rw [<- e]; exact hW.rd hg hgl hr, fun n hn => ?_, by simpa using hm⟩⟩
 ·have hd' : d < m := by
   have := (aE.1 hd).1
   simpa using this
  simp [List.getElem?_range hd'] at hd
  exact hd.symm
 ·obtain ⟨j, hj, rfl⟩ := List.mem_map.1 hn
  exact hv j (List.mem_range.1 hj)
theorem prt_tab {m : Nat} {val : Nat -> Nat -> Nat -> Int} {i : Nat} {v : Value} {B : Nat} {w : World} (h : PrT m val i v B w) (hv : ∀ o < m, ∀ j < m, I64 (val i o j)) (hm : m <= maxLen) :
  ∃ x : DaC, v = slD x /\ x.rows.length = m /\ (∀ o r, x.rows[o]? = some r -> r.ns.length = m /\ ∀ d y, r.ns[d]? = some y -> y = val i o d) /\ ∀ W, ig B w W -> Tab W x.A x.rows := by
 obtain ⟨g, xs, rfl, hg, hgl, hr, hl, hx⟩ := h
 obtain ⟨l, h1, h2⟩ := iY (P := fun o (r : NsC) => xs[o]? = some (slI r) /\ r.ns.length = m /\ (∀ d y, r.ns[d]? = some y -> y = val i o d) /\ ∀ W, ig (g + 1) w W -> (Rd W r.A (r.ns.map iV) /\ (∀ n ∈ r.ns, I64 n) /\ r.ns.length <= maxLen)) m (fun o ho => by
  obtain ⟨u, hu, hp⟩ := hx o ho
  obtain ⟨r, rfl, h3, h4, h5⟩ := prr_row hp (hv o ho) hm
  exact ⟨r, hu, h3, h4, h5⟩)
 have e : xs = l.map slI := mz (by omega) (fun k x hk => (h2 k x hk).1)
 refine ⟨⟨l, some (aV g 0), m⟩, by simp [slD, h1], h1, fun o r ho => ⟨(h2 o r ho).2.1, (h2 o r ho).2.2.1⟩, fun W hW => ⟨by rw [<- e]; exact hW.rd hg hgl hr, fun r hr => ?_⟩⟩
 obtain ⟨o, ho⟩ := lS hr
 exact (h2 o r ho).2.2.2 W (hW.mono (by omega))
theorem pC {w w' : World} {n : Net} {nx : List NsC} {fr till : Int} {e : Ending} (h : rV w n nx fr till e w') (hv : ∀ k < n.clss.length, ∀ o < n.offs.length, ∀ d < n.offs.length, I64 (eN n nx k o d fr till)) (hm : n.offs.length <= 1000000) :
  ∃ g c ds, e = .returned (.slice (some (aV g 0)) (List.length ds) c) /\ (∀ W, ig w.heap.size w' W -> qM W (some (aV g 0)) ds) /\ TabV n (fun k o d => eN n nx k o d fr till) ds /\ Below w.heap.size w w' /\ w.heap.size <= g := by
 obtain ⟨g, xs, rfl, hg, hgl, hr, hl, hx, hb⟩ := h
 obtain ⟨l, h1, h2⟩ := iY (P := fun k (x : DaC) => xs[k]? = some (slD x) /\ x.rows.length = n.offs.length /\ (∀ o r, x.rows[o]? = some r -> r.ns.length = n.offs.length /\ ∀ d y, r.ns[d]? = some y -> y = eN n nx k o d fr till) /\ ∀ W, ig (g + 1) w' W -> Tab W x.A x.rows) n.clss.length (fun k hk => by
  obtain ⟨v, hv1, hp⟩ := hx k hk
  obtain ⟨x, rfl, h3, h4, h5⟩ := prt_tab hp (fun o ho d hd => hv k hk o ho d hd) (by unfold maxLen; omega)
  exact ⟨x, hv1, h3, h4, h5⟩)
 have e : xs = l.map slD := mz (by omega) (fun k x hk => (h2 k x hk).1)
 refine ⟨g, n.clss.length, l, by rw [h1], fun W hW => ⟨by rw [<- e]; exact hW.rd hg hgl hr, fun r hr => ?_⟩, ⟨h1, fun k x hk => (h2 k x hk).2.imp id And.left⟩, hb, hg⟩
 obtain ⟨k, hk⟩ := lS hr
 exact ⟨(h2 k r hk).2.2.2 W (hW.mono (by omega)), by rw [(h2 k r hk).2.1]; exact hm⟩
theorem uz (c : Cal) (a b : Int) : eR c a b <= 2000 := by
 unfold eR
 split
 ·omega
 ·have := jm c (b - a).toNat (a + 1)
  omega
theorem vD {n : Net} {nx : List NsC} {k o d : Nat} {t x : Int} (h : ee n nx k o d t = some x) : x <= 2000 := by
 unfold ee at h
 split at h
 ·cases h
 ·split at h
  ·cases h
  ·simp only at h
   split at h
   ·cases h
   ·cases h; exact uz _ _ _
theorem pX (n : Net) (nx : List NsC) (k o d : Nat) : ∀ (l : List Int) (g : Int), -1 <= g -> g <= 2000 -> -1 <= eB n nx k o d l g /\ eB n nx k o d l g <= 2000
 | [], g, h1, h2 => ⟨h1, h2⟩
 | t :: l, g, h1, h2 => by
  unfold eB
  cases hn : ee n nx k o d t with
  | none => exact ⟨show (-1 : Int) <= -1 by omega, show (-1 : Int) <= 2000 by omega⟩
  | some x =>
   have h3 := vD hn
   exact pX n nx k o d l (max g x) (by omega) (by omega)
theorem vH (n : Net) (nx : List NsC) (k o d : Nat) (fr till : Int) : -1 <= eN n nx k o d fr till /\ eN n nx k o d fr till <= 2000 := pX n nx k o d _ (-1) (by omega) (by omega)
def pd (n : Net) (ds : List DaC) : Prop := ds.length = n.clss.length /\ ∀ x ∈ ds, Sq n.offs.length x.rows
def xd (ds : List DaC) (k o d : Nat) (pr : Int) : Prop := ∃ x r, ds[k]? = some x /\ x.rows[o]? = some r /\ r.ns[d]? = some pr
theorem sL {c : Cal} : ∀ {n : Nat} {d x : Int}, qE c n d = some x -> d <= x /\ x <= d + 60 * n
 | 0, d, x, h => by
  cases Option.some.inj h
  omega
 | n + 1, d, x, h => by
  unfold qE at h
  cases h2 : dL c 60 (d + 1) with
  | none => rw [h2] at h; cases h
  | some y =>
   rw [h2] at h
   have h3 := dK h2
   have h4 := sL (c := c) (n := n) (d := y) h
   push_cast
   omega
theorem addN_ok {c : Cal} {n : Nat} {d x : Int} (h : ed c n d = (x, 0)) : qE c n d = some x := by
 unfold ed at h
 cases h2 : qE c n d with
 | none => rw [h2] at h; have := (Prod.mk.inj h).2; omega
 | some y => rw [h2] at h; rw [(Prod.mk.inj h).1]
theorem addN_in {c : Cal} {n : Nat} {d x : Int} (h : ed c n d = (x, 0)) : d <= x /\ x <= d + 60 * n := sL (addN_ok h)
theorem rN (N : Nat) (n : Net) (D : Option Addr) (dc : Nat) (ds : List DaC) (w : World) (hN : br w N n) (hT : qM w D ds) (hL : pd n ds) (h1 : n.clss.length <= 4) (h2 : n.offs.length <= 12) :
  Calls Tryz.prog 77 #[.pointer (some (aV N 0)), .slice D ds.length dc] w fun e w' => e = .returned (.bool true) /\ w = w' := by
 have n5 : w.cell? (aV N 5) = some (.slice n.clsA n.clss.length n.clsC) := hN.box 5 _ rfl
 have n3 : w.cell? (aV N 3) = some (.slice n.offA n.offs.length n.offC) := hN.box 3 _ rfl
 have HT := aB hT; clear hT
 have HL := aB hL; clear hL
 have hd4 : ds.length <= 4 := by have := HL.out.1; omega
 have e1 : ((ds.length : Int) != (n.clss.length : Int)) = false := by rw [HL.out.1]; simp
 clear hN
 go_enter Tryz.func77, Tryz.ntmps77
 go_wp2
 go_loop [19] (fun i => ∃ k : Nat, k <= ds.length /\ i = iV k) (fun i => 5 - (intOf i).toNat)
 case atStart => exact ⟨0, by omega, rfl⟩
 case round =>
  obtain ⟨k, hk, rfl⟩ := hrel
  have k0 : (0 : Int) <= (k : Int) := by omega
  by_cases hlt : k < ds.length
  ·have k1 : (k : Int) < (ds.length : Int) := by omega
   obtain ⟨x, hx⟩ : ∃ x, ds[k]? = some x := ⟨_, aD hlt⟩
   obtain ⟨S, so, hA, -, hcell⟩ := HT.out.rd.get (i := k) (by simpa using hlt)
   have c1 : w.cell? (aV S (so + k)) = some (.slice x.A x.rows.length x.c) := hcell k (slD x) (by rw [aS, hx]; rfl)
   have HTX := aB (HT.out.row x (aF hx)).1
   have HSQ := aB (HL.out.2 x (aF hx))
   have e2 : ((x.rows.length : Int) != (n.offs.length : Int)) = false := by rw [HSQ.out.1]; simp
   have HAE := aB hA
   have hx12 : x.rows.length <= 12 := by have := HSQ.out.1; omega
   clear hcell hx
   rw [hA]
   clear hA
   go_wp2
   clear c1
   go_loop [33] (fun i => ∃ m : Nat, m <= x.rows.length /\ i = iV m) (fun i => 13 - (intOf i).toNat)
   case atStart => exact ⟨0, by omega, rfl⟩
   case round =>
    obtain ⟨m, hm, rfl⟩ := hrel
    have m0 : (0 : Int) <= (m : Int) := by omega
    by_cases hmt : m < x.rows.length
    ·have m1 : (m : Int) < (x.rows.length : Int) := by omega
     obtain ⟨r, hr⟩ : ∃ r, x.rows[m]? = some r := ⟨_, aD hmt⟩
     obtain ⟨T, to9, hB, -, hcell⟩ := HTX.out.rd.get (i := m) (by simpa using hmt)
     have c2 : w.cell? (aV T (to9 + m)) = some (.slice r.A r.ns.length r.c) := hcell m (slI r) (by rw [aS, hr]; rfl)
     have HRL := aB (HSQ.out.2 r (aF hr))
     have e3 : ((r.ns.length : Int) != (n.offs.length : Int)) = false := by rw [HRL.out]; simp
     have HBE := aB hB
     clear hcell hr
     rw [hB]
     clear hB
     go_wp2
     go_round
     case rel => exact ⟨m + 1, by omega, by go_num⟩
     case measure => simp [intOf]; omega
    ·have m1 : ¬ (m : Int) < (x.rows.length : Int) := by omega
     go_wp2
     go_round
     case rel => exact ⟨k + 1, by omega, by go_num⟩
     case measure => simp [intOf]; omega
  ·have k1 : ¬ (k : Int) < (ds.length : Int) := by omega
   go_wp2
   go_ret
   exact ⟨rfl, rfl⟩
def nd (J : Act -> Prop) (Q : Exit -> Act -> World -> Prop) : Exit -> Act -> World -> Prop
 | .panic c, a, w => J a /\ ∀ a', J a' -> Q (.panic c) a' w
 | e, a, w => Q e a w
theorem nd.imp {J : Act -> Prop} {Q : Exit -> Act -> World -> Prop} : ∀ (e : Exit) (a : Act) (w : World), nd J Q e a w -> Q e a w := fun e a w h => by
 cases e <;> first | exact h | exact h.2 a h.1
theorem jD {P : Program} {id : Nat} {ops : Array Oper} {b : Bool} {Q : Exit -> Act -> World -> Prop} {a : Act} {w : World} (J : Act -> Prop) (h : (Code.region id ops b).wp P (nd J Q) a w) : (Code.region id ops b).wp P Q a w :=
 Code.wp_mono nd.imp h
theorem nd.take {J : Act -> Prop} {Q : Exit -> Act -> World -> Prop} {d : Option Nat} {v : Value} (hJ : ∀ a, J (a.put d v) -> J a) : ∀ c a w, nd J Q (.panic c) (a.put d v) w -> nd J Q (.panic c) a w := fun _ a _ h => ⟨hJ a h.1, h.2⟩
def qJ (p q : Value) (D : List Deferred) (a : Act) : Prop := a.tmps.getD 6 undef = p /\ a.tmps.getD 7 undef = q /\ a.defers = D
theorem wu {p q : Value} {D : List Deferred} {d : Nat} {v : Value} (h6 : d ≠ 6) (h7 : d ≠ 7) : ∀ a, qJ p q D (a.put (some d) v) -> qJ p q D a := fun a h => by
 unfold qJ Act.put at *
 simpa [Array.getElem?_setIfInBounds_ne, h6, h7] using h
theorem oQ (q r : Nat) (s y : Value) (x : Int) (older : List PanicEntry) (w : World) (hq : w.cell? (aV q 0) = some s) (hqf : w.frozen? (aV q 0) = false)
  (hr : w.cell? (aV r 0) = some y) (hrf : w.frozen? (aV r 0) = false) (hqr : r ≠ q) :
  CallsD Tryz.prog 76 #[.pointer (some (aV q 0)), .pointer (some (aV r 0))] (.panicking ({ v := .iface 38 (iV x), recovered := false } :: older)) w fun e u' w' =>
   e = .returned (.tuple #[]) /\ u' = .panicking ({ v := .iface 38 (iV x), recovered := true } :: older) /\ w' = (w.setCell (aV q 0) (iV 0)).setCell (aV r 0) (iV x) := by
 have hc : (w.setCell (aV q 0) (iV 0)).cell? (aV r 0) = some y := by
  have hh := Below.heap_setCell w (aV q 0) (iV 0) r hqr
  simpa [World.cell?, hh] using hr
 have hf : (w.setCell (aV q 0) (iV 0)).frozen? (aV r 0) = false := by rw [World.frozen?_setCell]; exact hrf
 refine callsD_of_wpS Tryz.func76 rfl fun c₀ cs hu => ?_
 apply wpS_seq
 apply wpS_region
 simp [wpOpsS, go_sem, recoverD, hu, Tryz.ntmps76, Exit.thenS]
 refine wpS_of_wp ?_
 go_wp2_with fail
 refine (qs x _).mono ?_
 rintro e w1 ⟨rfl, rfl⟩
 go_wp2_with fail
 simp [bodyPostS, results, Tryz.results76]
theorem wX {c : Cal} {k : Nat} {d : Int} (h : (ed c k d).2 ≠ 0) : ed c k d = (0, 20) /\ 0 < k := by
 cases k with
 | zero => rw [ol] at h; exact absurd rfl h
 | succ k =>
  refine ⟨?_, Nat.succ_pos _⟩
  unfold ed at h ⊢
  split at h
  ·exact absurd rfl h
  ·rename_i g
   rfl
section
variable {P : Program} {md : Region.Mode} {ops : Array Oper} {S : World -> Prop}
theorem taP (i : Nat) {J : Act -> Prop} {Q : Exit -> Act -> World -> Prop} {oi : Oper} {v : Value} {fuel : Nat} {listed : Array Bool} {a : Act} {w : World}
  (h : wpAnyH P md ops (nd J Q) S fuel (listed.setIfInBounds i true) (a.put oi.dst v) w) (hi : ops[i]? = some oi := by rfl) (hy : ∀ w : World, S w -> (execOp a.eval oi).run P w = .ok (.value v) w := by (intro w hSw; (try dsimp only at hSw); go_simp; (try with_reducible rfl)))
  (hs : Region.noSelect ops = true := by kernel_rfl) (hf : Region.free md ops listed i = true := by kernel_rfl) (hr : (Region.ready md ops listed).contains i = true := by kernel_rfl)
  (hJ : ∀ a, J (a.put oi.dst v) -> J a := by exact wu (by decide) (by decide)) (hw : Region.wanted oi (yielded ops a.tmps) = true := by kernel_rfl) (hS : S w := by assumption) : wpAnyH P md ops (nd J Q) S (fuel + 1) listed a w :=
 wpAnyH_take hi hs hf hr (nd.take hJ) (Or.inl ⟨hw, hy⟩) hS h
end
section
attribute [local go_sem] Oper.semAt_some
def mO (n : Net) (o d k : Nat) (acc pr : Int) : Int × Int :=
 if (ak (calAt n o) (aw n k).cut acc).2 ≠ 0 then (0, 20) else if pr < 0 then (0, 170) else if 200 < pr then (0, 1) else
 if (ed (calAt n d) pr.toNat (bc (calAt n d) (ak (calAt n o) (aw n k).cut acc).1)).2 = 0 then (be (calAt n d) (ed (calAt n d) pr.toNat (bc (calAt n d) (ak (calAt n o) (aw n k).cut acc).1)).1 (aw n k).deliver, 0) else (0, 20)
theorem due_val (n : Net) (D : Option Addr) (dc : Nat) (ds : List DaC) (lab : List UInt8) (o d k : Nat) (acc pr : Int) (w : World) (hn : bj w n) (hT : qM w D ds) (hL : pd n ds) (hk : KW w) (hs : bM n) (ho : o < n.offs.length) (hd : d < n.offs.length) (hkc : k < n.clss.length) (ha1 : 0 <= acc) (ha2 : acc <= 1000000) (hval : xd ds k o d pr) :
  Calls Tryz.prog 28 #[bB n, .slice D ds.length dc, postV lab o d k acc] w fun e w' => e = .returned (.tuple #[iV (mO n o d k acc pr).1, iV (mO n o d k acc pr).2]) /\ Below w.heap.size w w' := by
 have hmf : ∀ (fn : Fn) (first cap : Array Value) (w : World), (Instr.makeFunc fn first cap).run Tryz.prog w = .ok (.func fn first cap) w := fun _ _ _ _ => rfl
 have HD := aB (Wd3.new w n lab o d k acc)
 have hx0 : ((((w.alloc (ae n)).alloc (.cells #[sV lab, iV o, iV d, iV k, iV acc] 42)).alloc (.cells #[iV 0] 3)).alloc (.cells #[iV 0] 38)).heap[w.heap.size]? = some (ae n) := (aK _ _ _ (by simp <;> omega)).trans ((aK _ _ _ (by simp <;> omega)).trans ((aK _ _ _ (by simp)).trans (aC _ _)))
 have HNP : Hid (br ((((w.alloc (ae n)).alloc (.cells #[sV lab, iV o, iV d, iV k, iV acc] 42)).alloc (.cells #[iV 0] 3)).alloc (.cells #[iV 0] 38)) w.heap.size n) := ⟨fun i v hv => (aA _ hx0).trans hv, hn.below HD.out.bel⟩
 have HT := aB (hT.below HD.out.bel)
 have HK := aB (hk.below HD.out.bel)
 have HS := aB hs; clear hs
 obtain ⟨ci, hci⟩ := HS.out.1.good.calAt ho
 have HCI := aB hci; clear hci
 obtain ⟨di, hdi⟩ := HS.out.1.good.calAt hd
 have HDI := aB hdi; clear hdi
 have HCL := aB (HS.out.1.good.cls _ (aF (bX hkc)))
 have HVAL := aB hval; clear hval
 have hf := HS.out.1.good.few
 have HL := aB hL
 clear hn hT hk hx0 hL
 go_enter_defers Tryz.func28, Tryz.ntmps28
 go_upto_region 2 with fail
 change Code.wp _ _ _ _ ((((w.alloc (ae n)).alloc (.cells #[sV lab, iV o, iV d, iV k, iV acc] 42)).alloc (.cells #[iV 0] 3)).alloc (.cells #[iV 0] 38))
 generalize ((((w.alloc (ae n)).alloc (.cells #[sV lab, iV o, iV d, iV k, iV acc] 42)).alloc (.cells #[iV 0] 3)).alloc (.cells #[iV 0] 38)) = W at *
 generalize hX : w.heap.size = X at *
 have HX := aB hX; clear hX
 have n3 : W.cell? (aV X 3) = some (.slice n.offA n.offs.length n.offC) := HNP.out.box 3 _ rfl
 have n5 : W.cell? (aV X 5) = some (.slice n.clsA n.clss.length n.clsC) := HNP.out.box 5 _ rfl
 have p1 : W.cell? (aV (X + 1) 1) = some (iV o) := aA 1 HD.out.post
 have p2 : W.cell? (aV (X + 1) 2) = some (iV d) := aA 2 HD.out.post
 have p3 : W.cell? (aV (X + 1) 3) = some (iV k) := aA 3 HD.out.post
 have p4 : W.cell? (aV (X + 1) 4) = some (iV acc) := aA 4 HD.out.post
 go_wp2_with fail
 refine (rN _ n D dc ds _ HNP.out HT.out HL.out hf.2.2.2 hf.2.1).mono ?_
 rintro e w' ⟨rfl, rfl⟩
 go_wp2_with fail
 refine (cS _ _ _).mono ?_
 rintro e w' ⟨rfl, rfl⟩
 rw [fy.2 ⟨by omega, by omega⟩]
 go_wp2_with fail
 refine (fq _).mono ?_
 rintro e w' ⟨rfl, rfl⟩
 go_wp2_with fail
 refine (cS _ _ _).mono ?_
 rintro e w' ⟨rfl, rfl⟩
 rw [fy.2 ⟨by omega, by omega⟩]
 go_wp2_with fail
 refine (cS _ _ _).mono ?_
 rintro e w' ⟨rfl, rfl⟩
 rw [fy.2 ⟨by omega, by omega⟩]
 go_wp2_with fail
 refine (fq _).mono ?_
 rintro e w' ⟨rfl, rfl⟩
 go_wp2_with fail
 refine (fR _ n _ HNP.out HK.out HS.out).mono ?_
 rintro e w1 ⟨rfl, hb⟩
 have HD1 := aB (HD.out.below hb)
 have HNP1 := aB (HNP.out.below hb)
 have HT1 := aB (HT.out.below hb)
 clear hb HD HNP HT n3 n5 p1 p2 p3 p4
 go_wp2_with fail
 refine (fq _).mono ?_
 rintro e w' ⟨rfl, rfl⟩
 obtain ⟨-, lb, lo, hlA, hlb, hl0, hlc⟩ := ay dh HNP1.out.net.clss (bX hkc) (by omega)
 have n5 : w1.cell? (aV X 5) = some (.slice n.clsA n.clss.length n.clsC) := HNP1.out.box 5 _ rfl
 have l0 : w1.cell? (aV lb (lo + k * 3)) = some (sV (aw n k).name) := hl0 _ rfl
 have l1 : w1.cell? (aV lb (lo + k * 3 + 1)) = some (iV (aw n k).cut) := hlc 1 _ rfl
 have l2 : w1.cell? (aV lb (lo + k * 3 + 2)) = some (iV (aw n k).deliver) := hlc 2 _ rfl
 rw [hlA] at n5
 have p3 : w1.cell? (aV (X + 1) 3) = some (iV k) := aA 3 HD1.out.post
 have j1 : (0 : Int) <= (k : Int) := by omega
 have j2 : (k : Int) < (n.clss.length : Int) := by omega
 clear hl0 hlc hlA hlb
 go_wp2_with fail
 clear n5 l0 l1 l2 p3
 have hcx := aC w1 (.cells #[sV (aw n k).name, iV (aw n k).cut, iV (aw n k).deliver] 135)
 have HCX := aB hcx; clear hcx
 have hba := ba w1 (.cells #[sV (aw n k).name, iV (aw n k).cut, iV (aw n k).deliver] 135)
 have HD2 := aB (HD1.out.below hba)
 have HNP2 := aB (HNP1.out.below hba)
 have HT2 := aB (HT1.out.below hba)
 have HCBX : Hid (X + 1 + 1 + 1 < w1.heap.size) := aa HD1.out.err
 clear hba HD1 HNP1 HT1
 change Code.wp _ _ _ _ (w1.alloc (.cells #[sV (aw n k).name, iV (aw n k).cut, iV (aw n k).deliver] 135))
 generalize (w1.alloc (.cells #[sV (aw n k).name, iV (aw n k).cut, iV (aw n k).deliver] 135)) = W2 at *
 generalize w1.heap.size = CB at *
 have HSw : Hid (∀ w', Below W2.heap.size W2 w' -> w'.cell? (aV (X + 1) 1) = some (iV o) /\ w'.cell? (aV (X + 1) 4) = some (iV acc) /\ w'.cell? (aV CB 1) = some (iV (aw n k).cut)) := fun w' hb =>
  ⟨aA 1 (HD2.out.below hb).post, aA 4 (HD2.out.below hb).post, aA 1 ((hb.block _ (aa HCX.out)).trans HCX.out)⟩
 have HCF0 : Hid (∀ W, cP W (calAt n o) -> Calls Tryz.prog 67 #[eI (calAt n o), iV (aw n k).cut, iV acc] W fun e w' => e = .returned (.tuple #[iV (ak (calAt n o) (aw n k).cut acc).1, iV (ak (calAt n o) (aw n k).cut acc).2]) /\ Below W.heap.size W w') := fun W h => hO (calAt n o) (aw n k).cut acc W h HCI.out.2.2 HCL.out.1 HCL.out.2.1 (by omega) (by omega)
 by_cases hcu : (ak (calAt n o) (aw n k).cut acc).2 = 0
 case neg =>
  have HQ : Hid (mO n o d k acc pr = (0, 20)) := by show _ = _; unfold mO; rw [if_pos hcu]
  have HCF : Hid (∀ W, cP W (calAt n o) -> Calls Tryz.prog 67 #[eI (calAt n o), iV (aw n k).cut, iV acc] W fun e w' => e = .returned (.tuple #[iV 0, iV 20]) /\ Below W.heap.size W w') := fun W h => by have := HCF0.out W h; rwa [jW hcu] at this
  clear hcu HCF0
  refine jD (qJ (.pointer (some (aV (X + 1 + 1) 0))) (.pointer (some (aV (X + 1 + 1 + 1) 0))) [{ target := .fn (.func 76) #[.pointer (some (aV (X + 1 + 1) 0)), .pointer (some (aV (X + 1 + 1 + 1) 0))], args := #[] }]) ?_
  refine wp_region_held_drew (S := (fun w' => w'.cell? (aV (X + 1) 1) = some (iV o) /\ w'.cell? (aV (X + 1) 4) = some (iV acc) /\ w'.cell? (aV CB 1) = some (iV (aw n k).cut))) (by kernel_rfl) (HSw.out _ (al (aJ _ _))) (fun hHeld => ?_)
  refine taP 0 ?_
  try simp only [LY]
  refine taP 1 ?_
  try simp only [LY]
  refine taP 3 ?_
  try simp only [LY]
  refine taP 4 ?_
  try simp only [LY]
  refine taP 5 ?_
  try simp only [LY]
  refine taP 6 ?_
  try simp only [LY]
  refine wpAnyH_ready (rs := [2]) (by kernel_rfl) (by simp) ?_
  refine AllReadyH.cons rfl (fun K hK => ?_) AllReadyH.nil
  go_simp
  go_at_call 68
  refine (eG X n o ci _ _ _ (HNP2.out.drewN 1) (bd ho) HCI.out.1 HCI.out.2.1).mono ?_
  rintro e w1a ⟨rfl, hb⟩
  have HB1a := aB (bdr hb)
  clear hb
  go_wp2_with fail
  refine hK.out _ _ (HSw.out _ HB1a.out) (fun hHeld => ?_)
  clear hK K
  try simp only [LY]
  refine wpAnyH_ready (rs := [7]) (by kernel_rfl) (by simp) ?_
  refine AllReadyH.cons rfl (fun K hK => ?_) AllReadyH.nil
  go_simp
  go_at_call 67
  refine (HCF.out _ ((HNP2.out.net.cal _ (aF HCI.out.2.1)).below HB1a.out)).mono ?_
  rintro e w2 ⟨rfl, hb⟩
  have HB1b := aB (bt HB1a.out hb)
  clear hb
  go_wp2_with fail
  refine hK.out _ _ (HSw.out _ HB1b.out) (fun hHeld => ?_)
  clear hK K
  try simp only [LY]
  refine taP 8 ?_
  try simp only [LY]
  refine taP 9 ?_
  try simp only [LY]
  refine wpAnyH_ready (rs := [10]) (by kernel_rfl) (by simp) ?_
  refine AllReadyH.cons rfl (fun K hK => ?_) AllReadyH.nil
  go_simp
  go_at_call 78
  refine (ku _ _ _ (by decide)).mono ?_
  rintro e w4 ⟨rfl, rfl⟩
  have HD8 := aB (HD2.out.below HB1b.out)
  refine ⟨⟨rfl, rfl, rfl⟩, ?_⟩
  rintro ⟨tmps, defs⟩ ⟨h6, h7, h8⟩
  dsimp only at h6 h7 h8
  subst h8
  change Leaves Tryz.prog _ _ _ _ _ _
  refine leaves_cons (f := 76) (args := #[.pointer (some (aV (X + 1 + 1) 0)), .pointer (some (aV (X + 1 + 1 + 1) 0))]) (by simp) (by simp [go_sem]) ?_
  refine (oQ (X + 1 + 1) (X + 1 + 1 + 1) _ _ _ _ _ (aA 0 HD8.out.res) (ac HD8.out.res 0) (aA 0 HD8.out.err) (ac HD8.out.err 0) (by omega)).mono ?_
  rintro e u' w'' ⟨rfl, rfl, rfl⟩
  have hD := HD8.out.set (iV 0) (iV 20)
  refine ⟨_, hD.out tmps h6 h7, by rw [HQ.out], ?_⟩
  rw [HX.out]
  exact hD.bel
 have hcq : ak (calAt n o) (aw n k).cut acc = ((ak (calAt n o) (aw n k).cut acc).1, 0) := by rw [<- hcu]
 generalize (ak (calAt n o) (aw n k).cut acc).1 = cut at hcq
 have HCUT := aB hcq
 have HCF : Hid (∀ W, cP W (calAt n o) -> Calls Tryz.prog 67 #[eI (calAt n o), iV (aw n k).cut, iV acc] W fun e w' => e = .returned (.tuple #[iV cut, iV 0]) /\ Below W.heap.size W w') := fun W h => by have := HCF0.out W h; rwa [HCUT.out] at this
 clear hcu hcq HCF0
 go_region_held3 (fun w' => w'.cell? (aV (X + 1) 1) = some (iV o) /\ w'.cell? (aV (X + 1) 4) = some (iV acc) /\ w'.cell? (aV CB 1) = some (iV (aw n k).cut)) (first | (with_reducible exact HSw.out _ (al (aJ _ _))) | (with_reducible exact HSw.out _ HB1a.out) | (with_reducible exact HSw.out _ HB1b.out)) (first
   | (go_at_call 68; refine (eG X n o ci _ _ _ (HNP2.out.drewN 1) (bd ho) HCI.out.1 HCI.out.2.1).mono ?_; rintro e w1a ⟨rfl, hb⟩; have HB1a := aB (bdr hb); clear hb)
   | (go_at_call 67; refine (HCF.out _ ((HNP2.out.net.cal _ (aF HCI.out.2.1)).below HB1a.out)).mono ?_; rintro e w2 ⟨rfl, hb⟩; have HB1b := aB (bt HB1a.out hb); clear hb)
   | (go_at_call 78; refine (ks _ _).mono ?_; rintro e w4 ⟨rfl, rfl⟩)
   | fail)
 have HD3 := aB (HD2.out.below HB1b.out)
 have HNP3 := aB (HNP2.out.below HB1b.out)
 have HT3 := aB (HT2.out.below HB1b.out)
 have HCX3 := aB ((HB1b.out.block _ (aa HCX.out)).trans HCX.out)
 clear HSw HCF HCX HD2 HNP2 HT2 HB1a HB1b
 obtain ⟨x, r, v1, v2, v3⟩ := HVAL.out
 have hds : ds.length <= 4 := by have := HL.out.1; omega
 have hsq := HL.out.2 x (aF v1)
 have hrl := hsq.2 r (aF v2)
 have hxl := hsq.1
 obtain ⟨D1, D2, dl, dc', E1, E2, el, ec, F1, F2, fl, fc, hdv, l1, l2, l3, l4, l5, l6, -, -, -, t1, t2, t3⟩ := wI (dc := dc) HT3.out (by omega) v1 v2 v3 (by omega) (by omega)
 have HS7 : Hid (w2.cell? (aV (X + 1) 1) = some (iV o) /\ w2.cell? (aV (X + 1) 2) = some (iV d) /\ w2.cell? (aV (X + 1) 3) = some (iV k) /\ w2.cell? (aV D1 (D2 + k)) = some (.slice (some (aV E1 E2)) el ec) /\ w2.cell? (aV E1 (E2 + o)) = some (.slice (some (aV F1 F2)) fl fc) /\ w2.cell? (aV F1 (F2 + d)) = some (iV pr)) :=
  ⟨aA 1 HD3.out.post, aA 2 HD3.out.post, aA 3 HD3.out.post, t1, t2, t3⟩
 have HS7d : Hid (w2.drew.cell? (aV (X + 1) 1) = some (iV o) /\ w2.drew.cell? (aV (X + 1) 2) = some (iV d) /\ w2.drew.cell? (aV (X + 1) 3) = some (iV k) /\ w2.drew.cell? (aV D1 (D2 + k)) = some (.slice (some (aV E1 E2)) el ec) /\ w2.drew.cell? (aV E1 (E2 + o)) = some (.slice (some (aV F1 F2)) fl fc) /\ w2.drew.cell? (aV F1 (F2 + d)) = some (iV pr)) := HS7.out
 have HDV := aB hdv
 rw [hdv]
 clear hdv v1 v2 v3 hsq hrl hxl hds
 have k9 : (0 : Int) <= (k : Int) := by omega
 have m1 : (k : Int) < (dl : Int) := by omega
 have m2 : (o : Int) < (el : Int) := by omega
 have m3 : (d : Int) < (fl : Int) := by omega
 have i1 : (0 : Int) <= (o : Int) := by omega
 have i2 : (o : Int) < (n.offs.length : Int) := by omega
 have i3 : (0 : Int) <= (d : Int) := by omega
 have i4 : (d : Int) < (n.offs.length : Int) := by omega
 go_wp2_with fail
 go_region_held3 (fun w' => w'.cell? (aV (X + 1) 1) = some (iV o) /\ w'.cell? (aV (X + 1) 2) = some (iV d) /\ w'.cell? (aV (X + 1) 3) = some (iV k) /\ w'.cell? (aV D1 (D2 + k)) = some (.slice (some (aV E1 E2)) el ec) /\ w'.cell? (aV E1 (E2 + o)) = some (.slice (some (aV F1 F2)) fl fc) /\ w'.cell? (aV F1 (F2 + d)) = some (iV pr)) (first | (with_reducible exact HS7d.out)) (fail)
 clear HS7 HS7d
 have HD4 := aB (HD3.out.below (al (aJ _ _)))
 have HNP4 := aB (HNP3.out.below (al (aJ _ _)))
 have HCX4 : Hid (w2.drew.heap[CB]? = some (.cells #[sV (aw n k).name, iV (aw n k).cut, iV (aw n k).deliver] 135 (0, 0))) := HCX3.out
 clear HD3 HNP3 HT3 HCX3
 generalize w2.drew = W3 at *
 by_cases hp0 : pr < 0
 case pos =>
  have HQ : Hid (mO n o d k acc pr = (0, 170)) := by show _ = _; unfold mO; rw [HCUT.out, if_neg (by simp), if_pos hp0]
  go_wp2_with fail
  change Leaves Tryz.prog _ _ _ _ _ _
  refine leaves_cons (f := 76) (args := #[.pointer (some (aV (X + 1 + 1) 0)), .pointer (some (aV (X + 1 + 1 + 1) 0))]) (by simp) (by simp [go_sem]) ?_
  refine (oQ (X + 1 + 1) (X + 1 + 1 + 1) _ _ _ _ _ (aA 0 HD4.out.res) (ac HD4.out.res 0) (aA 0 HD4.out.err) (ac HD4.out.err 0) (by omega)).mono ?_
  rintro e u' w'' ⟨rfl, rfl, rfl⟩
  have hD := HD4.out.set (iV 0) (iV 170)
  refine ⟨_, hD.out _ rfl rfl, by rw [HQ.out], ?_⟩
  rw [HX.out]
  exact hD.bel
 have HPR : Hid (0 <= pr) := by show 0 <= pr; omega
 have p2 : W3.cell? (aV (X + 1) 2) = some (iV d) := aA 2 HD4.out.post
 go_wp2_with fail
 refine (eG X n d di _ _ _ HNP4.out (bd hd) HDI.out.1 HDI.out.2.1).mono ?_
 rintro e w4 ⟨rfl, hb⟩
 have HD5 := aB (HD4.out.below hb)
 have HCC := aB ((HNP4.out.below hb).net.cal _ (aF HDI.out.2.1))
 have HCX5 := aB ((hb.block _ (aa HCX4.out)).trans HCX4.out)
 clear hb HD4 HNP4 HCX4 p2
 have hin : acc <= cut /\ cut <= acc + 90000 := cf HCL.out.1 HCL.out.2.1 HCUT.out
 obtain ⟨z1, z2, -⟩ := cV HDI.out.2.2
 have HDA : Hid (dr (bc (calAt n d) cut) = true) := by show _ = _; unfold dr bc; simp; omega
 have HQ0 : Hid (∀ v er, (200 < pr /\ v = 0 /\ er = 1) ∨ (pr <= 200 /\ ((ed (calAt n d) pr.toNat (bc (calAt n d) cut)).2 ≠ 0 /\ v = 0 /\ er = 20 ∨ (ed (calAt n d) pr.toNat (bc (calAt n d) cut)).2 = 0 /\ v = be (calAt n d) (ed (calAt n d) pr.toNat (bc (calAt n d) cut)).1 (aw n k).deliver /\ er = 0)) -> mO n o d k acc pr = (v, er)) := fun v er h => by
  unfold mO
  rw [HCUT.out, if_neg (by simp), if_neg (by have := HPR.out; omega)]
  rcases h with ⟨h1, rfl, rfl⟩ | ⟨h1, ⟨h2, rfl, rfl⟩ | ⟨h2, rfl, rfl⟩⟩
  ·rw [if_pos h1]
  ·rw [if_neg (by omega), if_neg h2]
  ·rw [if_neg (by omega), if_pos h2]
 generalize hCQ : calAt n d = C at *
 have HCQ := aB hCQ; clear hCQ
 have hx := aC w4 (.cells #[iV C.zone, .slice C.wA C.week.length C.wc, .slice C.hA C.hol.length C.hc] 110)
 have hba := ba w4 (.cells #[iV C.zone, .slice C.wA C.week.length C.wc, .slice C.hA C.hol.length C.hc] 110)
 have HX6 := aB hx
 have HD6 := aB (HD5.out.below hba)
 have HC6 := aB (HCC.out.below hba)
 have HCX6 := aB ((hba.block _ (aa HCX5.out)).trans HCX5.out)
 have k0 : (w4.alloc (.cells #[iV C.zone, .slice C.wA C.week.length C.wc, .slice C.hA C.hol.length C.hc] 110)).cell? (aV w4.heap.size 0) = some (iV C.zone) := aA 0 hx
 have k1 : (w4.alloc (.cells #[iV C.zone, .slice C.wA C.week.length C.wc, .slice C.hA C.hol.length C.hc] 110)).cell? (aV w4.heap.size 1) = some (.slice C.wA C.week.length C.wc) := aA 1 hx
 have k2 : (w4.alloc (.cells #[iV C.zone, .slice C.wA C.week.length C.wc, .slice C.hA C.hol.length C.hc] 110)).cell? (aV w4.heap.size 2) = some (.slice C.hA C.hol.length C.hc) := aA 2 hx
 have HYX : Hid (X + 1 + 1 + 1 < w4.heap.size) := aa HD5.out.err
 clear hx hba HD5 HCC HCX5
 go_wp2_with fail
 generalize (w4.alloc (.cells #[iV C.zone, .slice C.wA C.week.length C.wc, .slice C.hA C.hol.length C.hc] 110)) = W4 at *
 generalize w4.heap.size = Y at *
 refine (gV C cut _ HC6.out HDI.out.2.2 (by omega) (by omega)).mono ?_
 rintro e w5 ⟨rfl, hb⟩
 have HX7 := aB ((hb.block _ (aa HX6.out)).trans HX6.out)
 have HD7 := aB (HD6.out.below hb)
 have HC7 := aB (HC6.out.below hb)
 have HCX7 := aB ((hb.block _ (aa HCX6.out)).trans HCX6.out)
 clear hb HX6 HD6 HC6 HCX6 k0 k1 k2
 go_wp2_with fail
 have HSw : Hid (∀ w', Below w5.heap.size w5 w' -> w'.cell? (aV Y 0) = some (iV C.zone) /\ w'.cell? (aV Y 1) = some (.slice C.wA C.week.length C.wc) /\ w'.cell? (aV Y 2) = some (.slice C.hA C.hol.length C.hc) /\ w'.cell? (aV CB 2) = some (iV (aw n k).deliver)) := fun w' hb =>
  ⟨aA 0 ((hb.block _ (aa HX7.out)).trans HX7.out), aA 1 ((hb.block _ (aa HX7.out)).trans HX7.out), aA 2 ((hb.block _ (aa HX7.out)).trans HX7.out), aA 2 ((hb.block _ (aa HCX7.out)).trans HCX7.out)⟩
 by_cases hok : pr <= 200 /\ (ed C pr.toNat (bc C cut)).2 = 0
 case neg =>
  obtain ⟨er, her⟩ : ∃ er : Int, (200 < pr /\ er = 1) ∨ (pr <= 200 /\ (ed C pr.toNat (bc C cut)).2 ≠ 0 /\ er = 20) := by
   by_cases h : 200 < pr
   ·exact ⟨1, .inl ⟨h, rfl⟩⟩
   ·exact ⟨20, .inr ⟨by omega, fun h2 => hok ⟨by omega, h2⟩, rfl⟩⟩
  have HQ : Hid (mO n o d k acc pr = (0, er)) := HQ0.out 0 er (her.imp (fun h => ⟨h.1, rfl, h.2⟩) (fun h => ⟨h.1, .inl ⟨h.2.1, rfl, h.2.2⟩⟩))
  have HER : Hid (er ≠ 0) := by show er ≠ 0; omega
  have HCA : Hid (∀ W, cP W C -> Calls Tryz.prog 81 #[eI C, iV (bc C cut), iV pr] W fun e w' => e = .returned (.tuple #[iV 0, iV er]) /\ Below W.heap.size W w') := fun W h => by
   rcases her with ⟨h1, rfl⟩ | ⟨h1, h2, rfl⟩
   ·exact add_far C (bc C cut) pr W h HDI.out.2.2 HDA.out h1
   ·have := qD C (bc C cut) pr.toNat W h HDI.out.2.2 HDA.out (by omega)
    rwa [(wX h2).1, show ((pr.toNat : Nat) : Int) = pr by have := HPR.out; omega] at this
  clear hok her
  refine jD (qJ (.pointer (some (aV (X + 1 + 1) 0))) (.pointer (some (aV (X + 1 + 1 + 1) 0))) [{ target := .fn (.func 76) #[.pointer (some (aV (X + 1 + 1) 0)), .pointer (some (aV (X + 1 + 1 + 1) 0))], args := #[] }]) ?_
  refine wp_region_held_drew (S := (fun w' => w'.cell? (aV Y 0) = some (iV C.zone) /\ w'.cell? (aV Y 1) = some (.slice C.wA C.week.length C.wc) /\ w'.cell? (aV Y 2) = some (.slice C.hA C.hol.length C.hc) /\ w'.cell? (aV CB 2) = some (iV (aw n k).deliver))) (by kernel_rfl) (HSw.out _ (al (aJ _ _))) (fun hHeld => ?_)
  refine taP 0 ?_
  try simp only [LY]
  refine taP 1 ?_
  try simp only [LY]
  refine taP 2 ?_
  try simp only [LY]
  refine taP 3 ?_
  try simp only [LY]
  refine taP 8 ?_
  try simp only [LY]
  refine taP 9 ?_
  try simp only [LY]
  refine wpAnyH_ready (rs := [4]) (by kernel_rfl) (by simp) ?_
  refine AllReadyH.cons rfl (fun K hK => ?_) AllReadyH.nil
  go_simp
  go_at_call 81
  refine (HCA.out _ (HC7.out.below (al (aJ _ _)))).mono ?_
  rintro e w8 ⟨rfl, hb⟩
  have HB8 := aB (bdr hb)
  clear hb
  go_wp2_with fail
  refine hK.out _ _ (HSw.out _ HB8.out) (fun hHeld => ?_)
  clear hK K
  try simp only [LY]
  refine taP 5 ?_
  try simp only [LY]
  refine taP 6 ?_
  try simp only [LY]
  refine wpAnyH_ready (rs := [7]) (by kernel_rfl) (by simp) ?_
  refine AllReadyH.cons rfl (fun K hK => ?_) AllReadyH.nil
  go_simp
  go_at_call 78
  refine (ku _ _ _ HER.out).mono ?_
  rintro e w4 ⟨rfl, rfl⟩
  have HD8 := aB (HD7.out.below HB8.out)
  refine ⟨⟨rfl, rfl, rfl⟩, ?_⟩
  rintro ⟨tmps, defs⟩ ⟨h6, h7, h8⟩
  dsimp only at h6 h7 h8
  subst h8
  change Leaves Tryz.prog _ _ _ _ _ _
  refine leaves_cons (f := 76) (args := #[.pointer (some (aV (X + 1 + 1) 0)), .pointer (some (aV (X + 1 + 1 + 1) 0))]) (by simp) (by simp [go_sem]) ?_
  refine (oQ (X + 1 + 1) (X + 1 + 1 + 1) _ _ _ _ _ (aA 0 HD8.out.res) (ac HD8.out.res 0) (aA 0 HD8.out.err) (ac HD8.out.err 0) (by omega)).mono ?_
  rintro e u' w'' ⟨rfl, rfl, rfl⟩
  have hD := HD8.out.set (iV 0) (iV er)
  refine ⟨_, hD.out tmps h6 h7, by rw [HQ.out], ?_⟩
  rw [HX.out]
  exact hD.bel
 obtain ⟨hp2, hq2⟩ := hok
 have hadd : ed C pr.toNat (bc C cut) = ((ed C pr.toNat (bc C cut)).1, 0) := by rw [<- hq2]
 have HQ : Hid (mO n o d k acc pr = (be C (ed C pr.toNat (bc C cut)).1 (aw n k).deliver, 0)) := HQ0.out _ _ (.inr ⟨hp2, .inr ⟨hq2, rfl, rfl⟩⟩)
 generalize (ed C pr.toNat (bc C cut)).1 = dd at *
 have hdd : dr dd = true := by
  have h3 := addN_in hadd
  have h4 := HPR.out
  unfold bc at h3
  unfold dr
  simp
  omega
 have HDD := aB hdd; clear hdd
 have HCA : Hid (∀ W, cP W C -> Calls Tryz.prog 81 #[eI C, iV (bc C cut), iV pr] W fun e w' => e = .returned (.tuple #[iV dd, iV 0]) /\ Below W.heap.size W w') := fun W h => by
  have := qD C (bc C cut) pr.toNat W h HDI.out.2.2 HDA.out (by have := HPR.out; omega)
  rwa [hadd, show ((pr.toNat : Nat) : Int) = pr by have := HPR.out; omega] at this
 clear hq2 HQ0
 have HE1 : Hid ((X + 1 + 1 ≠ Y /\ X + 1 + 1 ≠ CB) /\ X + 1 + 1 + 1 ≠ Y /\ X + 1 + 1 + 1 ≠ CB) := by
  have h1 := HYX.out
  have h2 := HCBX.out
  exact ⟨⟨by omega, by omega⟩, by omega, by omega⟩
 have HNE : Hid (∀ w' : World, ∀ v, (w'.setCell (aV (X + 1 + 1) 0) v).cell? (aV (X + 1 + 1 + 1) 0) = w'.cell? (aV (X + 1 + 1 + 1) 0) /\ (w'.setCell (aV (X + 1 + 1) 0) v).frozen? (aV (X + 1 + 1 + 1) 0) = w'.frozen? (aV (X + 1 + 1 + 1) 0)) := fun w' v => ⟨World.cell?_setCell_other _ _ _ _ (by simp), World.frozen?_setCell _ _ _ _⟩
 go_region_held3 (fun w' => w'.cell? (aV Y 0) = some (iV C.zone) /\ w'.cell? (aV Y 1) = some (.slice C.wA C.week.length C.wc) /\ w'.cell? (aV Y 2) = some (.slice C.hA C.hol.length C.hc) /\ w'.cell? (aV CB 2) = some (iV (aw n k).deliver)) (first | (with_reducible exact HSw.out _ (al (aJ _ _))) | (with_reducible exact HSw.out _ HB8.out) | (with_reducible exact HSw.out _ HB9.out) | (exact oP HE1.out.1.1 HE1.out.1.2 (HSw.out _ HB9.out)) | (exact oP HE1.out.2.1 HE1.out.2.2 (oP HE1.out.1.1 HE1.out.1.2 (HSw.out _ HB9.out)))) (first
   | (go_at_call 81; refine (HCA.out _ (HC7.out.below (al (aJ _ _)))).mono ?_; rintro e w8 ⟨rfl, hb⟩; have HB8 := aB (bdr hb); clear hb)
   | (go_at_call 78; refine (ks _ _).mono ?_; rintro e w4 ⟨rfl, rfl⟩)
   | (go_at_call 80; refine (kb C dd _ _ (HC7.out.below HB8.out) HDI.out.2.2 HDD.out HCL.out.2.2.1 HCL.out.2.2.2).mono ?_; rintro e w9 ⟨rfl, hb⟩; have HB9 := aB (bt HB8.out hb); clear hb; have HD9 := aB (HD7.out.below HB9.out); have c6 : w9.cell? (aV (X + 1 + 1) 0) = some (iV 0) := aA 0 HD9.out.res; have f6 : w9.frozen? (aV (X + 1 + 1) 0) = false := ac HD9.out.res 0; have c7 : w9.cell? (aV (X + 1 + 1 + 1) 0) = some (iV 0) := aA 0 HD9.out.err; have f7 : w9.frozen? (aV (X + 1 + 1 + 1) 0) = false := ac HD9.out.err 0)
   | fail)
 go_wp2_with fail
 refine leaves_cons (f := 76) (args := #[.pointer (some (aV (X + 1 + 1) 0)), .pointer (some (aV (X + 1 + 1 + 1) 0))]) (by simp) (by simp [go_sem]) ?_
 refine (wF (X + 1 + 1) (X + 1 + 1 + 1) _).mono ?_
 rintro e u' w'' ⟨rfl, rfl, rfl⟩
 have hD := HD9.out.set (iV (be C dd (aw n k).deliver)) (iV 0)
 refine ⟨_, hD.out _ rfl rfl, by rw [HQ.out], ?_⟩
 rw [HX.out]
 exact hD.bel
theorem due_all (n : Net) (D : Option Addr) (dc : Nat) (ds : List DaC) (lab : List UInt8) (o d k : Nat) (acc pr : Int) (w : World) (hn : bj w n) (hT : qM w D ds) (hL : pd n ds) (hk : KW w) (hs : bM n) (ho : o < n.offs.length) (hd : d < n.offs.length) (hkc : k < n.clss.length) (ha1 : 0 <= acc) (ha2 : acc <= 1000000) (hval : xd ds k o d pr) :
  ∃ due er : Int, (er = 0 -> ∃ cut Z, ak (calAt n o) (aw n k).cut acc = (cut, 0) /\ 0 <= pr /\ ed (calAt n d) pr.toNat (bc (calAt n d) cut) = (Z, 0) /\ due = be (calAt n d) Z (aw n k).deliver) /\
   Calls Tryz.prog 28 #[bB n, .slice D ds.length dc, postV lab o d k acc] w fun e w' => e = .returned (.tuple #[iV due, iV er]) /\ Below w.heap.size w w' := by
 refine ⟨_, _, fun h => ?_, due_val n D dc ds lab o d k acc pr w hn hT hL hk hs ho hd hkc ha1 ha2 hval⟩
 unfold mO at h ⊢
 split at h
 ·cases h
 ·rename_i g1
  have g1 : (ak (calAt n o) (aw n k).cut acc).2 = 0 := Classical.not_not.1 g1
  rw [if_neg (by simp [g1])]
  split at h
  ·cases h
  ·rename_i g2
   rw [if_neg g2]
   split at h
   ·cases h
   ·rename_i g3
    rw [if_neg g3]
    split at h
    ·rename_i g4
     rw [if_pos g4]
     exact ⟨_, _, cU g1, by omega, by rw [<- g4], rfl⟩
    ·cases h
theorem s5 {n : Net} {val : Nat -> Nat -> Nat -> Int} {ds : List DaC} (h : TabV n val ds) : pd n ds := ⟨h.1, fun x hx => by
 obtain ⟨k, hk⟩ := lS hx
 obtain ⟨h1, h2⟩ := h.2 k x hk
 exact ⟨h1, fun r hr => by
  obtain ⟨o, ho⟩ := lS hr
  exact (h2 o r ho).1⟩⟩
theorem tabV_is {n : Net} {val : Nat -> Nat -> Nat -> Int} {ds : List DaC} (h : TabV n val ds) {k o d : Nat} (hk : k < n.clss.length) (ho : o < n.offs.length) (hd : d < n.offs.length) : xd ds k o d (val k o d) := by
 obtain ⟨x, hx⟩ : ∃ x, ds[k]? = some x := ⟨_, aD (by rw [h.1]; exact hk)⟩
 obtain ⟨h1, h2⟩ := h.2 k x hx
 obtain ⟨r, hr⟩ : ∃ r, x.rows[o]? = some r := ⟨_, aD (by rw [h1]; exact ho)⟩
 obtain ⟨h3, h4⟩ := h2 o r hr
 obtain ⟨y, hy⟩ : ∃ y, r.ns[d]? = some y := ⟨_, aD (by rw [h3]; exact hd)⟩
 have h5 := h4 d y hy
 subst h5
 exact ⟨x, r, hx, hr, hy⟩
end
theorem cut_in {n : Net} (hG : cY n) {k o : Nat} (hk : k < n.clss.length) {fr till t x : Int} (h1 : 1440 * fr <= t) (h2 : till <= fr + 12) (h : ak (calAt n o) (aw n k).cut t = (x, 0)) (hx : x < 1440 * till) : x ∈ jc (calAt n o) (aw n k).cut (1440 * till) (1440 * fr) := by
 have hc := hG.cls _ (aF (bX hk))
 have h3 := cf hc.1 hc.2.1 h
 rw [qo hc.1 hc.2.1 (M := t) (T := 1440 * till) (by omega) _ (1440 * fr) (aH _) h1 (by omega), fz _ hc.1 hc.2.1 (1440 * till) t, if_pos ⟨by rw [h], by rw [h]; exact hx⟩, h]
 exact aP _ (List.mem_cons_self ..)
theorem cY.ready {n : Net} (hG : cY n) {o : Nat} (ho : o < n.offs.length) (t : Int) : t <= ax (ap n o) t /\ ax (ap n o) t <= t + 960 := by
 have := hG.off _ (aF (bd ho))
 have := gU this.2.1 this.2.2.1 this.2.2.2.1 this.2.2.2.2
 unfold ax
 omega
theorem rL {c : Cal} {L : Lin} {t : Int} (h : (aZ c L t).2 = 0) : tOk t = true /\ ak c L.at_ t = ((aZ c L t).1, 0) := by
 unfold aZ at h ⊢
 by_cases a : tOk t = true
 ·rw [if_pos a] at h ⊢
  exact ⟨a, cU h⟩
 ·rw [if_neg a] at h
  exact absurd h (by decide)
theorem ej.len_eq {n : Net} {nx : List NsC} {d : Nat} : ∀ (l l' : List St) (o : Nat) (t u : Int), ej n nx d o t l -> ej n nx d o u l' -> l.length = l'.length
 | [], _, _, _, _, h, _ => h.elim
 | _, [], _, _, _, _, h => h.elim
 | [_], [_], _, _, _, _, _ => rfl
 | [_], _ :: _ :: _, _, _, _, h, h' => absurd h.2 h'.2.1
 | _ :: _ :: _, [_], _, _, _, h, h' => absurd h'.2 h.2.1
 | s :: a :: l, s' :: b :: l', o, t, u, h, h' => by
  have := ej.len_eq (a :: l) (b :: l') _ _ _ h.2.2.2.2 h'.2.2.2.2
  simpa using this
theorem ej.seen {n : Net} {nx : List NsC} (hG : cY n) (hF : bi n nx) {d : Nat} (hd : d < n.offs.length) : ∀ (l : List St) (o : Nat) (t : Int), o < n.offs.length -> ej n nx d o t l -> ∃ S : List Nat, S.length = l.length /\ S.Nodup /\ ∀ x ∈ S, x < n.offs.length /\ ∃ t' l', ej n nx d x t' l' /\ l'.length <= l.length
 | [], _, _, _, h => h.elim
 | [s], o, t, ho, h => ⟨[o], rfl, by simp, fun x hx => by rw [aR.1 hx]; exact ⟨ho, t, [s], h, aH _⟩⟩
 | s :: a :: l, o, t, ho, h => by
  obtain ⟨-, p3, -⟩ := oR hG hF ho hd h.2.2.1
  obtain ⟨S, h1, h2, h3⟩ := ej.seen hG hF hd (a :: l) _ _ p3 h.2.2.2.2
  refine ⟨o :: S, by simp [h1], List.nodup_cons.2 ⟨fun hx => ?_, h2⟩, fun x hx => ?_⟩
  ·obtain ⟨-, t', l', g1, g2⟩ := h3 o hx
   have := ej.len_eq _ _ _ _ _ h g1
   simp at this g2
   omega
  ·rcases List.mem_cons.1 hx with rfl | hx
   ·exact ⟨ho, t, _, h, aH _⟩
   ·obtain ⟨g1, t', l', g2, g3⟩ := h3 x hx
    exact ⟨g1, t', l', g2, by simp at g3 ⊢; omega⟩
theorem pQ : ∀ (N : Nat) (S : List Nat), S.Nodup -> (∀ x ∈ S, x < N) -> S.length <= N
 | 0, [], _, _ => aH _
 | 0, x :: S, _, h => absurd (h x (List.mem_cons_self ..)) (by omega)
 | N + 1, S, hn, h => by
  have h1 := pQ N (S.erase N) (hn.erase N) (fun x hx => by
   have h2 := (hn.mem_erase_iff).1 hx
   have h3 := h x h2.2
   have h4 := h2.1
   omega)
  rw [List.length_erase] at h1
  split at h1 <;> omega
theorem ej.short {n : Net} {nx : List NsC} (hG : cY n) (hF : bi n nx) {d o : Nat} (hd : d < n.offs.length) (ho : o < n.offs.length) {t : Int} {l : List St} (h : ej n nx d o t l) : l.length <= n.offs.length := by
 obtain ⟨S, h1, h2, h3⟩ := ej.seen hG hF hd l o t ho h
 rw [<- h1]
 exact pQ _ S h2 (fun x hx => (h3 x hx).1)
theorem vQ (s a : St) (l : List St) : aj (s :: a :: l) = aj (a :: l) := by simp [aj, List.getLastD_eq_getLast?]
theorem ej.time {n : Net} {nx : List NsC} (hG : cY n) (hF : bi n nx) {d : Nat} (hd : d < n.offs.length) : ∀ (l : List St) (o : Nat) (t : Int), o < n.offs.length -> ej n nx d o t l -> t <= (aj l).arrive /\ (aj l).arrive + 96000 <= t + 96000 * l.length
 | [], _, _, _, h => h.elim
 | [s], o, t, ho, h => by
  have e : aj [s] = s := rfl
  rw [e, h.1]
  simp
 | s :: a :: l, o, t, ho, h => by
  obtain ⟨⟨p1, p2⟩, p3, -, hl1, hl2⟩ := oR hG hF ho hd h.2.2.1
  have htr := hG.lin _ (aF (bC (n := n) (l := (aX nx o d).toNat) (by omega)))
  obtain ⟨h1, h2⟩ := ej.time hG hF hd (a :: l) _ _ p3 h.2.2.2.2
  have h3 := cf p1 p2 (rL h.2.2.2.1).2
  have h4 := hG.ready ho t
  have h5 : s.depart = (aZ (calAt n o) (af n (aX nx o d).toNat) (ax (ap n o) t)).1 := by rw [h.1]
  rw [vQ]
  simp only [List.length_cons] at h2 ⊢
  omega
theorem l9 {c : Cal} : ∀ (n : Nat) (d : Int), (∀ y, d <= y -> y < d + n -> cz c y = false) -> bY c n d = []
 | 0, _, _ => rfl
 | n + 1, d, h => by
  rw [bY, h d (Int.le_refl _) (by omega), l9 n (d + 1) (fun y h1 h2 => h y (by omega) (by omega))]
  rfl
theorem mU {c : Cal} : ∀ (k : Nat) (b D : Int), ed c k b = (D, 0) -> b <= D /\ (bY c (D - b).toNat (b + 1)).length = k
 | 0, b, D, h => by
  rw [ol] at h
  cases h
  rw [show (b - b).toNat = 0 by omega]
  exact ⟨Int.le_refl _, rfl⟩
 | k + 1, b, D, h => by
  cases hn : dL c 60 (b + 1) with
  | none => rw [oq hn] at h; exact absurd (Prod.mk.inj h).2 (by decide)
  | some x =>
   rw [om hn] at h
   obtain ⟨h1, h2⟩ := mU k x D h
   obtain ⟨g1, -, g3, g4⟩ := dK hn
   refine ⟨by omega, ?_⟩
   rw [show (D - b).toNat = ((x - b - 1).toNat + 1) + (D - x).toNat by omega, gN, f8, l9 _ _ (fun y h3 h4 => g4 y h3 (by omega)), show b + 1 + (((x - b - 1).toNat : Nat) : Int) = x by omega, g3, show b + 1 + ((((x - b - 1).toNat + 1 : Nat)) : Int) = x + 1 by omega]
   simp [h2]
theorem day_le {c : Cal} {k : Nat} {b D E : Int} (h : ed c k b = (D, 0)) (hE : cz c E = true) (hs : E <= b + 2000) (hc : eR c b E <= k) : E <= D := by
 rcases Int.lt_or_le D E with hlt | hle
 ·obtain ⟨h1, h2⟩ := mU k b D h
  unfold eR at hc
  rw [if_neg (by omega), show (E - b).toNat = (D - b).toNat + ((E - D - 1).toNat + 1) by omega, gN, f8, show b + 1 + (((D - b).toNat : Nat) : Int) + (((E - D - 1).toNat : Nat) : Int) = E by omega, hE] at hc
  simp [h2] at hc
  omega
 ·exact hle
theorem my (n : Net) (nx : List NsC) (k o d : Nat) : ∀ (l : List Int) (g : Int), eB n nx k o d l g ≠ -1 -> g <= eB n nx k o d l g /\ ∀ t ∈ l, ∃ x, ee n nx k o d t = some x /\ x <= eB n nx k o d l g
 | [], g, _ => ⟨Int.le_refl _, fun t ht => by cases ht⟩
 | t :: l, g, h => by
  unfold eB at h ⊢
  cases hn : ee n nx k o d t with
  | none => rw [hn] at h; exact absurd rfl h
  | some x =>
   rw [hn] at h
   obtain ⟨h1, h2⟩ := my n nx k o d l (max g x) h
   refine ⟨by show g <= eB n nx k o d l (max g x); omega, fun u hu => ?_⟩
   rcases List.mem_cons.1 hu with rfl | hu
   ·exact ⟨x, hn, by show x <= eB n nx k o d l (max g x); omega⟩
   ·exact h2 u hu
theorem tY {n : Net} {nx : List NsC} {k o d : Nat} {t x : Int} (h : ee n nx k o d t = some x) :
  (bA n nx d 19 o t).1 = 0 /\ (cq (calAt n d) (ap n d) (aw n k) (aj (bA n nx d 19 o t).2).arrive).2 = 0 /\ eR (calAt n d) (bc (calAt n d) t) (bc (calAt n d) (cq (calAt n d) (ap n d) (aw n k) (aj (bA n nx d 19 o t).2).arrive).1) = x := by
 unfold ee at h
 split at h
 ·cases h
 ·rename_i h1
  split at h
  ·cases h
  ·rename_i h2
   simp only at h
   split at h
   ·cases h
   ·cases h
    exact ⟨by simpa using h1, by simpa using h2, rfl⟩
theorem uh {n : Net} {fr till : Int} {nx : List NsC} (hG : cY n) (hN : bi n nx) (h6 : n.offs.length <= 6) (h12 : till <= fr + 12) {k o d : Nat} (hk : k < n.clss.length) (ho : o < n.offs.length) (hd : d < n.offs.length) {t cut : Int} (hp0 : 0 <= eN n nx k o d fr till)
  (hc : ak (calAt n o) (aw n k).cut t = (cut, 0)) (hc1 : 1440 * fr <= cut) (hct : cut < 1440 * till) (hw : (bA n nx d 19 o t).1 = 0) (hdel : (cq (calAt n d) (ap n d) (aw n k) (aj (bA n nx d 19 o t).2).arrive).2 = 0)
  {D : Int} (hD : ed (calAt n d) (eN n nx k o d fr till).toNat (bc (calAt n d) cut) = (D, 0)) :
  (cq (calAt n d) (ap n d) (aw n k) (aj (bA n nx d 19 o t).2).arrive).1 <= be (calAt n d) D (aw n k).deliver := by
 have hcl := hG.cls _ (aF (bX hk))
 have hci := cf hcl.1 hcl.2.1 hc
 have hcc := jV hcl.1 hcl.2.1 hci.1 (Int.le_refl _) hc
 obtain ⟨x, hx, hxp⟩ := (my n nx k o d _ (-1) (show eB n nx k o d _ (-1) ≠ -1 by
  have : eN n nx k o d fr till ≠ -1 := by omega
  exact this)).2 cut (cut_in hG hk hc1 h12 hcc hct)
 obtain ⟨w1, w2, w3⟩ := tY hx
 have hxp' : x <= eN n nx k o d fr till := hxp
 obtain ⟨k1, -⟩ := oA 19 o t hw
 obtain ⟨k2, -⟩ := oA 19 o cut w1
 have hall := qT (sN.same n) hG hN hd 19 o t cut ho hci.1 hw w1
 have s2 := ej.short hG hN hd ho k2
 have m2 := ej.time hG hN hd _ _ _ ho k2
 have hle : (aj (bA n nx d 19 o t).2).arrive <= (aj (bA n nx d 19 o cut).2).arrive := by
  have hlen := hall.len
  have hne : (bA n nx d 19 o t).2 ≠ [] := fun h => by rw [h] at k1; exact k1
  have hpos : 0 < (bA n nx d 19 o t).2.length := aL.2 hne
  have e1 : (bA n nx d 19 o t).2[(bA n nx d 19 o t).2.length - 1]? = some (aj (bA n nx d 19 o t).2) := by
   unfold aj
   rw [List.getLastD_eq_getLast?, List.getLast?_eq_getElem?, aD (by omega)]
   rfl
  have e2 : (bA n nx d 19 o cut).2[(bA n nx d 19 o t).2.length - 1]? = some (aj (bA n nx d 19 o cut).2) := by
   unfold aj
   rw [List.getLastD_eq_getLast?, List.getLast?_eq_getElem?, <- hlen, aD (by omega)]
   rfl
  exact (hall.get _ _ _ e1 e2).2.2.1
 generalize aj (bA n nx d 19 o t).2 = a at *
 generalize aj (bA n nx d 19 o cut).2 = b at *
 have r2 := hG.ready hd b.arrive
 have r3 : ax (ap n d) a.arrive <= ax (ap n d) b.arrive := by unfold ax; omega
 unfold cq at w2 w3 hdel ⊢
 have hmono := lG hcl.2.2.1 hcl.2.2.2 r3 (cU hdel) (cU w2)
 obtain ⟨E, hE, hwE, -⟩ := fo hcl.2.2.1 hcl.2.2.2 (cU w2)
 have hin := cf hcl.2.2.1 hcl.2.2.2 (cU w2)
 rw [hE] at w3 hmono hin
 have hday : bc (calAt n d) (be (calAt n d) E (aw n k).deliver) = E := by unfold bc be; omega
 rw [hday] at w3
 have hED : E <= D := day_le hD hwE (by
  unfold be at hin
  unfold bc
  omega) (by omega)
 have : be (calAt n d) E (aw n k).deliver <= be (calAt n d) D (aw n k).deliver := by unfold be; omega
 omega
section
attribute [local go_sem] Oper.semAt_some
theorem qu {n : Net} {nx : List NsC} {ds : List Ded} {h : Hst} (hr : cX n nx ds = some h) (hN : (h.items.map fun i => i.post.label).Nodup) {it : Itm} (hi : it ∈ h.items) (hc : cG n nx ds it.post.label = true) : xf n nx it := by
 unfold cG at hc
 rw [hr] at hc
 simp only at hc
 have hf : h.items.find? (fun j => j.post.label == it.post.label) = some it := by
  clear hc hr
  generalize h.items = l at *
  induction l with
  | nil => cases hi
  | cons x l ih =>
   rw [List.map_cons, List.nodup_cons] at hN
   rcases List.mem_cons.1 hi with rfl | hi
   ·simp
   ·have hne : x.post.label ≠ it.post.label := fun e => hN.1 (by rw [e]; exact List.mem_map.2 ⟨it, hi, rfl⟩)
    rw [List.find?_cons_of_neg (by simpa using hne)]
    exact ih hN.2 hi
 rw [hf] at hc
 simp only at hc
 cases hg : cX n nx [gi it.post] with
 | none => rw [hg] at hc; cases hc
 | some g =>
  rw [hg] at hc
  obtain ⟨e, he, -⟩ := mi rfl hg
  simp only at hc
  rw [he] at hc
  exact ⟨g, e, hg, he, by simpa using hc⟩
end
end Go.Proofs.YtpeaiphdkgifaaaGreatDoor
