/- The walks over promise.Way, Ready, Delivery and Cutoff. The walk over -/
import Derived.Test.YtpeaiphdkgifaaaGreatDoorVai
import Derived.Test.YtpeaiphdkgifaaaGreatDoorVac
import Derived.Defers
import Derived.Recover
import Derived.Test.YtpeaiphdkgifaaaGreatDoorVab
import Derived.RegionTactic
import Derived.RegionIn
import Derived.Deep.RegionHeld3
import Derived.Laws.EntriesVeiled
import Derived.RecoverIn
import Derived.Test.YtpeaiphdkgifaaaGreatDoorVaa
import Derived.Maps.OwnSet
import Derived.RangeFuncIn
namespace Go.Proofs.YtpeaiphdkgifaaaGreatDoor
open Go.RowKit
set_option maxHeartbeats 20000000
set_option maxRecDepth 100000
theorem bE {w : World} {B : Nat} {cs : Array Value} {t : TypeId} {fr : Nat × Nat} (h : w.heap[B]? = some (.cells cs t fr)) (j : Nat) (v : Value) : (w.setCell (aV B j) v).heap[B]? = some (.cells (cs.setIfInBounds j v) t fr) := by
 have hlt := aa h
 have hh : w.heap[B] = .cells cs t fr := (Array.getElem?_eq_some_iff.1 h).2
 simp only [World.setCell]
 rw [Array.getElem?_eq_getElem (by rw [Array.size_modify]; exact hlt), Array.getElem_modify_self, hh]
 rfl
theorem bU {w : World} {B C : Nat} {o : Obj} (h : w.heap[B]? = some o) (hne : B ≠ C) (j : Nat) (v : Value) : (w.setCell (aV C j) v).heap[B]? = some o := (Below.heap_setCell _ _ _ _ hne).trans h
theorem cE {w : World} {base : Nat} {e : TypeId} {size : Nat} {A : Option Addr} {n c : Nat} {xs : List Value} (h : w.ownsRow base e size (.slice A n c) n xs) : Rd w A xs := by
 have hl := h.1
 rcases h.2 with ⟨hv, h0⟩ | ⟨g, cap, cur, hv, hb, hg, hc, hm, hs, ht⟩
 ·cases hv
  exact .inl (List.eq_nil_of_length_eq_zero (by simpa using hl))
 ·cases hv
  refine .inr ⟨g, 0, rfl, aa hg, fun i u hu => ?_⟩
  have := h.cells (g := g) rfl i u hu
  rwa [show ((aV g 0) : Addr).add i = (aV g (0 + i)) by rw [gr]] at this
def inB (i : Int) (m : Nat) : Bool := decide (0 <= i) && decide (i < (m : Int))
theorem fy {i : Int} {m : Nat} : inB i m = true ↔ 0 <= i /\ i < (m : Int) := by unfold inB; simp
theorem cS (i : Int) (m : Nat) (w : World) : Calls Tryz.prog 55 #[iV i, iV m] w fun e w' => e = .returned (.bool (inB i m)) /\ w = w' := iy i m w
open Classical in
noncomputable def readyTop (n : Net) (o t : Int) : Int := if inB o n.offs.length = true /\ tOk t = true /\ bM n then ax (ap n o.toNat) t else 0
open Classical in
noncomputable def deliveryTop (n : Net) (k o t : Int) : Int × Int := if inB k n.clss.length = true /\ inB o n.offs.length = true /\ tOk t = true /\ bM n then cq (calAt n o.toNat) (ap n o.toNat) (aw n k.toNat) t else (0, 1)
theorem iI (n : Net) (k o t : Int) (w : World) (hn : bj w n) (hk : KW w) :
  Calls Tryz.prog 29 #[bB n, iV k, iV o, iV t] w fun e w' => e = .returned (.tuple #[iV (deliveryTop n k o t).1, iV (deliveryTop n k o t).2]) /\ Below w.heap.size w w' := by
 have hb0 := ba w (ae n)
 have hx0 := aC w (ae n)
 have HNP : Hid (br (w.alloc (ae n)) w.heap.size n) := ⟨fun i v hv => (aA _ hx0).trans hv, hn.below hb0⟩
 have HK := aB (hk.below hb0)
 have hl := hn.lens.2.2.2.1
 have hl5 := hn.lens.2.2.2.2.2
 unfold maxLen at hl hl5
 have n3 : (w.alloc (ae n)).cell? (aV w.heap.size 3) = some (.slice n.offA n.offs.length n.offC) := HNP.out.box 3 _ rfl
 have n5 : (w.alloc (ae n)).cell? (aV w.heap.size 5) = some (.slice n.clsA n.clss.length n.clsC) := HNP.out.box 5 _ rfl
 have hbad : ¬ (inB k n.clss.length = true /\ inB o n.offs.length = true /\ tOk t = true /\ bM n) -> deliveryTop n k o t = (0, 1) := fun h => if_neg h
 have HBAD := aB hbad; clear hbad
 have HB0 := aB hb0
 clear hn hk hx0 hb0
 go_enter Tryz.func29, Tryz.ntmps29
 go_upto_region 1 with fail
 change Code.wp _ _ _ _ (w.alloc (ae n))
 generalize (w.alloc (ae n)) = W at *
 go_wp2_with fail
 refine (cS _ _ _).mono ?_
 rintro e w' ⟨rfl, rfl⟩
 cases h0 : inB k n.clss.length
 case false =>
  have H0 := aB h0; clear h0
  go_wp2_with fail
  go_ret2
  rw [HBAD.out (by intro h; rw [H0.out] at h; cases h.1)]
  exact ⟨rfl, HB0.out⟩
 case true =>
 have H0 := aB h0; clear h0
 go_wp2_with fail
 refine (cS _ _ _).mono ?_
 rintro e w' ⟨rfl, rfl⟩
 cases h1 : inB o n.offs.length
 case false =>
  have H1 := aB h1; clear h1
  go_wp2_with fail
  go_ret2
  rw [HBAD.out (by intro h; rw [H1.out] at h; cases h.2.1)]
  exact ⟨rfl, HB0.out⟩
 case true =>
 have H1 := aB h1; clear h1
 go_wp2_with fail
 refine (gp _ _).mono ?_
 rintro e w' ⟨rfl, rfl⟩
 cases h3 : tOk t
 case false =>
  have H3 := aB h3; clear h3
  go_wp2_with fail
  go_ret2
  rw [HBAD.out (by intro h; rw [H3.out] at h; cases h.2.2.1)]
  exact ⟨rfl, HB0.out⟩
 case true =>
 have H3 := aB h3; clear h3
 by_cases h4 : bM n
 case neg =>
  have H4 := aB h4; clear h4
  go_wp2_with fail
  refine (kh _ n _ HNP.out HK.out H4.out).mono ?_
  rintro e w1 ⟨rfl, hb⟩
  have HB1 := aB (bt HB0.out hb); clear hb
  go_wp2_with fail
  go_ret2
  rw [HBAD.out (by intro h; exact H4.out h.2.2.2)]
  exact ⟨rfl, HB1.out⟩
 case pos =>
 have H4 := aB h4; clear h4
 have HR : Hid (deliveryTop n k o t = cq (calAt n o.toNat) (ap n o.toNat) (aw n k.toNat) t) := if_pos ⟨H0.out, H1.out, H3.out, H4.out⟩
 have hkk := fy.1 H0.out
 have ho := fy.1 H1.out
 have ht := H3.out
 unfold tOk at ht
 simp only [Bool.and_eq_true, decide_eq_true_eq] at ht
 obtain ⟨k', rfl⟩ := aN hkk.1
 obtain ⟨o', rfl⟩ := aN ho.1
 obtain ⟨ht1, ht2⟩ := ht
 have hoo : o' < n.offs.length := by omega
 have hkc : k' < n.clss.length := by omega
 obtain ⟨ci, hci⟩ := H4.out.1.good.calAt hoo
 have HCI := aB hci; clear hci
 obtain ⟨-, hp⟩ := H4.out.1.good.off _ (aF (bd hoo))
 have HP := aB hp; clear hp
 have HC := aB (H4.out.1.good.cls _ (aF (bX hkc)))
 clear hkk ho
 go_wp2_with fail
 refine (fR _ n _ HNP.out HK.out H4.out).mono ?_
 rintro e w1 ⟨rfl, hb⟩
 have HB1 := aB (bt HB0.out hb)
 have HNP1 := aB (HNP.out.below hb); clear hb n3 n5
 go_wp2_with fail
 refine (kE _ n k' o' ci _ _ _ t _ HNP1.out (bX hkc) (bd hoo) HCI.out.1 HCI.out.2.1 HCI.out.2.2 HC.out.2.2.1 HC.out.2.2.2 HP.out.1 HP.out.2.1 HP.out.2.2.1 HP.out.2.2.2 (by omega) (by omega)).mono ?_
 rintro e w2 ⟨rfl, hb⟩
 have HB2 := aB (bt HB1.out hb); clear hb
 go_wp2_with fail
 go_ret2
 rw [HR.out]
 exact ⟨rfl, HB2.out⟩
def aj (l : List St) : St := l.getLastD ⟨0, 0, 0, 0⟩
def ko : Op -> Bool
 | .defer _ => false
 | _ => true
theorem ri {P : Program} {l n : Nat} {row : String} {args : Array Value} {w : World} {R : Value -> World -> Prop} (h : Rows P row args w R) : RowsIn (Fence.wide.inRound l) n P row args w R :=
 fun c cs _ => let ⟨v, w', r, s⟩ := h c cs; ⟨v, w', r, stepsIn_wide.2 s⟩
theorem vz {P : Program} {l n : Nat} {o : Oper} {a : Act} {w : World} {K : Act -> World -> Prop} {Q : Exit -> Act -> World -> Prop} (hd : ko o.op = true) (h : o.wp P a w K Q) : o.wpIn (Fence.wide.inRound l) n P a w K Q := by
 refine ⟨fun _ _ => trivial, ?_⟩
 rw [Oper.semAt_eq _ _ _ (fun c hc => by rw [hc] at hd; cases hd)]
 unfold Oper.wp at h
 generalize (execOp a.eval o).run P w = r at *
 have hdep : (Fence.wide.inRound l).depth.isSome = true -> 1 <= n := fun h => by simp [Fence.wide] at h
 cases r with
 | ok x w' =>
  cases x <;> simp only [Oper.upon, Oper.uponIn] at h ⊢ <;>
   first
    | exact h
    | exact ⟨hdep, CallsIn.inRound l (callsIn_wide.2 h)⟩
    | exact ⟨hdep, ri h⟩
 | halt x w' => cases x <;> simp only [Oper.upon, Oper.uponIn] at h ⊢ <;> exact h
theorem iH {P : Program} {l n id : Nat} {ops : Array Oper} {Q : Exit -> Act -> World -> Prop} {a : Act} {w : World} (hm : P.follows .mixedOrders = true)
  (h : wpAnyIn (Fence.wide.inRound l) n P .any ops Q ops.size (Array.replicate ops.size false) a w.drew) : (Code.region id ops true).wpIn (Fence.wide.inRound l) n P Q a w :=
 wpIn_region_any hm h
def j9 (f0 : FuncId) (P : Program) (c : Code) (Q : Exit -> Act -> World -> Prop) (a : Act) (w : World) : Prop :=
 ∀ (b : Frame) (k : List Item) (cs : List Frame), b.roundOf = none -> b.fn = f0 ->
  ∃ e a' w', Q e a' w' /\ ArrivesIn (Machine.fenced P Fence.wide) P (lone (b.atR a (.code c :: k)) cs w) b k cs e a' w'
theorem dy {f0 : FuncId} {P : Program} {c : Code} {Q : Exit -> Act -> World -> Prop} {a : Act} {w : World} (h : c.wp P Q a w) : j9 f0 P c Q a w :=
 fun b k cs hro _ => (wpIn_wide (n := 9)).2 h b k cs hro trivial (room_wide _)
theorem cN {f0 : FuncId} {P : Program} {x y : Code} {Q : Exit -> Act -> World -> Prop} {a : Act} {w : World} (h : j9 f0 P x (Exit.then (j9 f0 P y Q) Q) a w) : j9 f0 P (Code.seq x y) Q a w := by
 intro b k cs hro hb
 have h0 : (lone (b.atR a (.code (.seq x y) :: k)) cs w).fenced P Fence.wide := fenced_wide P _
 obtain ⟨e, a₁, w₁, hq, harr⟩ := h b (.code y :: k) cs hro hb
 cases e with
 | normal =>
  obtain ⟨e₂, a₂, w₂, hq₂, harr₂⟩ := hq b k cs hro hb
  exact ⟨e₂, a₂, w₂, hq₂, .of_steps (.head h0 stepR_seq harr) harr₂⟩
 | exit id => exact ⟨_, a₁, w₁, hq, .of_steps (.one h0 stepR_seq) (.pass (x := .code y) rfl (fun _ _ => .inl (by simp)) harr)⟩
 | goto l => exact ⟨_, a₁, w₁, hq, .of_steps (.one h0 stepR_seq) (.pass (x := .code y) rfl (fun _ _ => .inl (by simp)) harr)⟩
 | ret => exact ⟨_, a₁, w₁, hq, .of_steps (.one h0 stepR_seq) (.pass (x := .code y) rfl (fun _ _ => .inl (by simp)) harr)⟩
 | panic ch => exact ⟨_, a₁, w₁, hq, .of_steps (.one h0 stepR_seq) (.pass (x := .code y) rfl (fun _ _ => .inl (by simp)) harr)⟩
 | outgrown => exact ⟨_, a₁, w₁, hq, .of_steps (.one h0 stepR_seq) (.pass (x := .code y) rfl (fun _ _ => .inl (by simp)) harr)⟩
theorem jM {f0 : FuncId} {P : Program} {id : Nat} {c : Code} {Q : Exit -> Act -> World -> Prop} {a : Act} {w : World} (h : j9 f0 P c (Exit.inBlock id Q) a w) : j9 f0 P (Code.block id c) Q a w := by
 intro b k cs hro hb
 have h0 : (lone (b.atR a (.code (.block id c) :: k)) cs w).fenced P Fence.wide := fenced_wide P _
 obtain ⟨e, a₁, w₁, hq, harr⟩ := h b (.inBlock id :: k) cs hro hb
 cases e with
 | normal => exact ⟨.normal, a₁, w₁, hq, .head h0 stepR_block (StepsIn.trans harr (.one (fenced_wide P _) stepR_inBlock))⟩
 | exit id' =>
  by_cases hid : id' = id
  ·simp only [Exit.inBlock, hid, if_true] at hq
   exact ⟨.normal, a₁, w₁, hq, .head h0 stepR_block (harr.1 k (by simp [exitTo, hid]))⟩
  ·simp only [Exit.inBlock, hid, if_false] at hq
   have this : (id == id') = false := by simp; exact fun h => hid h.symm
   have hx : exitTo id' (.inBlock id :: k) = exitTo id' k := by simp [exitTo, this]
   exact ⟨.exit id', a₁, w₁, hq, fun k' hk => .head h0 stepR_block (harr.1 k' (by rw [hx]; exact hk)),
    fun hr' hk => let ⟨k₁, h1, h2⟩ := harr.2 hr' (by rw [hx]; exact hk); ⟨k₁, h1, .head h0 stepR_block h2⟩⟩
 | goto l =>
  have hx : gotoIn l (.inBlock id :: k) = gotoIn l k := by simp [gotoIn]
  exact ⟨_, a₁, w₁, hq, fun k' hk => .head h0 stepR_block (harr.1 k' (by rw [hx]; exact hk)),
   fun hr' hk => let ⟨k₁, h1, h2⟩ := harr.2 hr' (by rw [hx]; exact hk); ⟨k₁, h1, .head h0 stepR_block h2⟩⟩
 | ret => exact ⟨_, a₁, w₁, hq, .of_steps (.one h0 stepR_block) harr⟩
 | panic ch => exact ⟨_, a₁, w₁, hq, .of_steps (.one h0 stepR_block) harr⟩
 | outgrown => exact ⟨_, a₁, w₁, hq, .of_steps (.one h0 stepR_block) harr⟩
theorem fX {f0 : FuncId} {P : Program} {g : Operand} {ps : Array Tmp} {assign body : Code} {Q : Exit -> Act -> World -> Prop} {a : Act} {w : World}
  (h : ∃ (l : Nat) (mark : List Deferred) (w₁ : World) (d : Deferred) (w₁' : World) (f : FuncId) (args : Array Value) (w₂ : World),
   (Instr.enterLoop f0 a.tmps ps assign body none).run P w = .ok (l, mark) w₁ /\
   (resolve a.eval (rangeCall g l) 0).run P w₁ = .ok d w₁' /\
   (invoke d.target d.args).run P w₁' = .ok (.enter f args) w₂ /\
   CallsIn Fence.wide 8 P f args w₂ (rangePost Fence.wide 9 P l Q { a with defers := mark ++ a.defers })) :
  j9 f0 P (Code.rangeFunc g ps assign body) Q a w := by
 intro b k cs hro hb
 obtain ⟨l, mark, w₁, d, w₁', f, args, w₂, he, hres, hinv, hF, hcall⟩ := h
 rw [<- hro, <- hb] at he
 have h0 : (lone (b.atR a (.code (.rangeFunc g ps assign body) :: k)) cs w).fenced P Fence.wide := fenced_wide P _
 have henter := stepR_rangeFunc (P := P) (b := b) (a := a) (k := k) (cs := cs) (w := w) he hres hinv
 obtain ⟨e, w₃, fr, hR, hsteps, hfn, hleave⟩ := hcall (b.atR { a with defers := mark ++ a.defers } (.inRangeFunc l :: k) :: cs) (room_wide _)
 cases e with
 | outgrown =>
  obtain ⟨a₀, w₀, hq⟩ := hR
  exact ⟨.outgrown, a₀, w₀, hq, .inr (Outgrown.of_steps (.one henter) hsteps)⟩
 | returned v =>
  have hl : (lone fr (b.atR { a with defers := mark ++ a.defers } (.inRangeFunc l :: k) :: cs) w₃).fenced P Fence.wide := fenced_wide P _
  obtain ⟨jump, w₄, hend, hj⟩ := hR
  have sback : StepsIn (Machine.fenced P Fence.wide) P (lone (b.atR a (.code (.rangeFunc g ps assign body) :: k)) cs w) (lone (b.atR { a with defers := mark ++ a.defers } ((jump.map Item.code).toList ++ k)) cs w₄) := by
   refine .head h0 henter (StepsIn.trans hsteps (.head hl ?_ (.one (fenced_wide P _) (stepR_endRangeFunc hend))))
   rw [<- finish_atR_inRangeFunc l v]; exact step_leave_returned hleave
  cases jump with
  | none => exact ⟨.normal, _, w₄, hj, sback⟩
  | some c =>
   obtain ⟨e', a'', w₅, hq, harr⟩ := hj b k cs hro trivial (room_wide _)
   exact ⟨e', a'', w₅, hq, .of_steps sback harr⟩
 | panicked chain =>
  have hl : (lone fr (b.atR { a with defers := mark ++ a.defers } (.inRangeFunc l :: k) :: cs) w₃).fenced P Fence.wide := fenced_wide P _
  refine ⟨.panic chain, _, w₃, hR, .inRangeFunc l :: k, .head h0 henter (StepsIn.trans hsteps (.one hl ?_))⟩
  rw [<- Frame.raise_atR]; exact step_leave_panicked hleave
theorem jg {P : Program} {f : FuncId} {fn : Func} {c : Code} {args : Array Value} {w : World} {R : Ending -> World -> Prop}
  (hf : P.funcs[f]? = some fn) (hb : fn.body = some c)
  (h : j9 f P c (bodyPostM Fence.wide 9 P fn R) { tmps := args ++ Array.replicate (fn.ntmps - args.size) undef, defers := [] } w) : Calls P f args w R := by
 refine (callsIn_wide (n := 9)).1 ⟨trivial, fun cs hr => ?_⟩
 let b : Frame := { (default : Frame) with fn := f, kind := .normal, roundOf := none }
 have henter : Frame.enter P f args .normal =
   b.atR { tmps := args ++ Array.replicate (fn.ntmps - args.size) undef, defers := [] } [.code c] := by
  simp [Frame.enter, Frame.atR, hf, hb, b]
 obtain ⟨e, a', w', hq, harr⟩ := h b [] cs rfl rfl
 rw [<- henter] at harr
 cases e with
 | normal =>
  obtain ⟨e', w'', fr', hR, hs, hfn, hl⟩ := leaves_stepsInM a'.defers .returning w' { b.atR a' [] with mode := .returning } cs rfl rfl rfl hf rfl trivial hr hq
  exact ⟨e', w'', fr', hR, ComesIn.of_steps (StepsIn.trans harr (.one (fenced_wide P _) (stepR_end rfl))) hs, hfn, hl⟩
 | ret =>
  obtain ⟨todo, hs₀⟩ := harr.1 rfl
  obtain ⟨e', w'', fr', hR, hs, hfn, hl⟩ := leaves_stepsInM a'.defers .returning w' { b.atR a' todo with mode := .returning } cs rfl rfl rfl hf rfl trivial hr hq
  exact ⟨e', w'', fr', hR, ComesIn.of_steps hs₀ hs, hfn, hl⟩
 | panic chain =>
  obtain ⟨todo, hs₀⟩ := harr
  obtain ⟨e', w'', fr', hR, hs, hfn, hl⟩ := leaves_stepsInM a'.defers (.panicking chain) w' { b.atR a' todo with mode := .panicking chain } cs rfl rfl rfl hf rfl trivial hr hq
  exact ⟨e', w'', fr', hR, ComesIn.of_steps hs₀ hs, hfn, hl⟩
 | exit id => exact hq.elim
 | goto l => exact hq.elim
 | outgrown => exact ⟨.outgrown, w', b, hq, harr.resolve_left (by simp [b]), rfl, trivial⟩
def ie (B : Nat -> Prop) (W W' : World) : Prop := ∀ b, B b -> W'.heap[b]? = W.heap[b]?
theorem ia {P : Program} {l n : Nat} {md : Region.Mode} {ops : Array Oper} {Q : Exit -> Act -> World -> Prop} (hd : ∀ (i : Nat) (o : Oper), ops[i]? = some o -> ko o.op = true) (hq : ¬ LetsOut Q) :
  ∀ (fuel : Nat) (listed : Array Bool) (a : Act) (w : World), wpAny P md ops Q fuel listed a w -> wpAnyIn (Fence.wide.inRound l) n P md ops Q fuel listed a w
 | 0, _, _, _, h => h
 | fuel + 1, listed, a, w, h => by
  refine ⟨h.1, fun i hi => ?_⟩
  have hh := h.2 i hi
  unfold wpOp at hh
  unfold wpOpIn
  cases ho : ops[i]? with
  | none =>
   simp only [ho] at hh ⊢
   exact ia hd hq fuel _ _ _ hh
  | some o =>
   simp only [ho] at hh ⊢
   by_cases hw : Region.wanted o (yielded ops a.tmps) = true
   ·rw [if_pos hw] at hh ⊢
    exact vz (hd i o ho) (Oper.wp_mono (fun a w h => ia hd hq fuel _ a w h) (hh.resolve_right fun h => hq h.2))
   ·rw [if_neg hw] at hh ⊢
    exact ⟨fun _ _ => trivial, ia hd hq fuel _ _ _ hh⟩
theorem gK {P : Program} {l n id : Nat} {ops : Array Oper} {Q : Exit -> Act -> World -> Prop} {a : Act} {w : World} {S : World -> Prop} (hm : P.follows .mixedOrders = true) (hd : (ops.toList.all fun o => ko o.op) = true) (hq : ¬ LetsOut Q)
  (h : wpAnyH P .any ops Q S ops.size (Array.replicate ops.size false) a w.drew) : (Code.region id ops true).wpIn (Fence.wide.inRound l) n P Q a w :=
 iH hm (ia (fun i o ho => List.all_eq_true.1 hd o (by rw [<- Array.getElem?_toList] at ho; exact aF ho)) hq _ _ _ _ (wpAny_of_held _ _ _ _ h))
theorem cg {c : Cal} {m t d : Int} (h1 : 0 <= m) (h2 : m < 1440) : bm c m t <= d ↔ t <= be c d m := by
 unfold bm be fN bc
 split <;> omega
theorem eQ (c : Cal) (m t : Int) : (∃ D, dL c 60 (bm c m t) = some D /\ ak c m t = (be c D m, 0)) ∨ (dL c 60 (bm c m t) = none /\ ak c m t = (0, 20)) := by
 have : ak c m t = match dL c 60 (bm c m t) with | some d => (be c d m, 0) | none => (0, 20) := rfl
 rw [this]
 cases dL c 60 (bm c m t) with
 | none => exact .inr ⟨rfl, rfl⟩
 | some D => exact .inl ⟨D, rfl, rfl⟩
theorem fo {c : Cal} {m t x : Int} (h1 : 0 <= m) (h2 : m < 1440) (h : ak c m t = (x, 0)) : ∃ D, x = be c D m /\ cz c D = true /\ t <= x /\ (∀ E, E < D -> cz c E = true -> be c E m < t) /\ bm c m t <= D /\ D < bm c m t + 60 := by
 rcases eQ c m t with ⟨D, hD, h3⟩ | ⟨_, h3⟩
 ·rw [h3] at h
  obtain ⟨g1, g2, g3, g4⟩ := dK hD
  refine ⟨D, (Prod.mk.inj h).1.symm, g3, ?_, fun E hE hw => ?_, g1, by omega⟩
  ·rw [<- (Prod.mk.inj h).1]
   exact (cg h1 h2).1 g1
  ·rcases Int.lt_or_le (be c E m) t with h4 | h4
   ·exact h4
   ·have := g4 E ((cg h1 h2).2 h4) hE
    rw [this] at hw
    cases hw
 ·rw [h3] at h
  have := (Prod.mk.inj h).2
  omega
theorem jW {c : Cal} {m t : Int} (h : (ak c m t).2 ≠ 0) : ak c m t = (0, 20) := by
 rcases eQ c m t with ⟨D, hD, h3⟩ | ⟨_, h3⟩
 ·rw [h3] at h; exact absurd rfl h
 ·exact h3
theorem cU {c : Cal} {m t : Int} (h : (ak c m t).2 = 0) : ak c m t = ((ak c m t).1, 0) := by rw [<- h]
theorem jV {c : Cal} {m t u x : Int} (h1 : 0 <= m) (h2 : m < 1440) (ht : t <= u) (hu : u <= x) (h : ak c m t = (x, 0)) : ak c m u = (x, 0) := by
 obtain ⟨D, rfl, a1, a2, a3, a4, a5⟩ := fo h1 h2 h
 have hD : bm c m u <= D := (cg h1 h2).2 hu
 have hL : bm c m t <= bm c m u := (cg h1 h2).2 (by have := (cg (c := c) h1 h2).1 (Int.le_refl (bm c m u)); omega)
 rcases eQ c m u with ⟨E, hE, h3⟩ | ⟨hE, h3⟩
 ·obtain ⟨g1, g2, g3, g4⟩ := dK hE
  have : E = D := by
   rcases Int.lt_or_le E D with h4 | h4
   ·have := a3 E h4 g3
    have := (cg (c := c) h1 h2).1 g1
    omega
   ·rcases Int.lt_or_le D E with h5 | h5
    ·have := g4 D hD h5
     rw [a1] at this
     cases this
    ·omega
  rw [h3, this]
 ·have := iu hE D hD (by omega)
  rw [a1] at this
  cases this
section
open Go.Maps (Keyed)
open Classical in
noncomputable def updF (f : Value -> Option Value) (k v : Value) : Value -> Option Value := fun x => if x = k then some v else f x
theorem jo (f : Value -> Option Value) (k v : Value) : updF f k v k = some v := by unfold updF; rw [if_pos rfl]
theorem ff (f : Value -> Option Value) {k x : Value} (v : Value) (h : x ≠ k) : updF f k v x = f x := by unfold updF; rw [if_neg h]
def dG (P : Program) (K : TypeId) (w : World) (b m : Nat) (f : Value -> Option Value) : Prop :=
 ∃ es clock, w.heap[b]? = some (.map es clock) /\ es.size <= m /\ (∀ e ∈ es.toList, ∃ l, keyOf P K e.key = some l) /\ (∀ e ∈ es.toList, f e.key = some e.val) /\ (∀ k v, f k = some v -> ∃ e ∈ es.toList, e.key = k) /\ es.toList.Pairwise (fun x y => x.key ≠ y.key)
section
variable {P : Program} {K : TypeId} {w w' : World} {b m : Nat} {f : Value -> Option Value}
theorem dG.new (w : World) (P : Program) (K : TypeId) : dG P K (w.alloc (.map #[] 0)) w.heap.size 0 (fun _ => none) :=
 ⟨#[], 0, (MapKept.heap_alloc w _).1, aH _, by simp, by simp, fun _ _ h => (by cases h), by simp⟩
theorem dG.lt (h : dG P K w b m f) : b < w.heap.size := by
 obtain ⟨es, clock, hb, -⟩ := h
 exact (Array.getElem?_eq_some_iff.1 hb).1
theorem dG.kept (h : dG P K w b m f) (hk : w'.heap[b]? = w.heap[b]?) : dG P K w' b m f := by
 obtain ⟨es, clock, hb, r⟩ := h
 exact ⟨es, clock, hk.trans hb, r⟩
theorem dG.below (h : dG P K w b m f) (hb : Below w.heap.size w w') : dG P K w' b m f := h.kept (hb.block b h.lt)
theorem dG.eq (h : dG P K w b m f) {g : Value -> Option Value} (e : f = g) : dG P K w b m g := e ▸ h
theorem dG.look (h : dG P K w b m f) (hK : Keyed P K) {t e : TypeId} (ht : P.underlying t = some (.map K e)) {z : Value} (hz : (zeroValue e).run P w = .ok z w) {key : Value} {kl : Lit} (hkey : keyOf P K key = some kl) (c : Bool) :
  (Instr.lookup t (.map (some b)) key c).run P w = .ok (if c then .tuple #[(f key).getD z, .bool (f key).isSome] else (f key).getD z) w := by
 obtain ⟨es, clock, hb, -, hks, hf, hg, -⟩ := h
 rcases hK.find w hkey es.toList hks with ⟨h1, h2⟩ | ⟨j, e0, h1, h2, h3⟩
 ·have hn : f key = none := by
   cases hv : f key with
   | none => rfl
   | some v =>
    obtain ⟨e1, he1, ek⟩ := hg key v hv
    exact absurd ek (h2 e1 he1)
  rw [hn]
  simp [Instr.lookup, MapKept.run_getObj_map hb, hK.check w _ hkey, h1, hz, Result.andThen, run_underlying ht]
 ·have hs : f key = some e0.val := by
   have := hf e0 (aF h2)
   rwa [h3] at this
  rw [hs]
  simp [Instr.lookup, MapKept.run_getObj_map hb, hK.check w _ hkey, h1, Result.andThen, run_underlying ht]
theorem dG.store (h : dG P K w b m f) (hK : Keyed P K) {t e : TypeId} (ht : P.underlying t = some (.map K e)) {key : Value} {kl : Lit} (hkey : keyOf P K key = some kl) (val : Value) :
  ∃ w', (Instr.mapUpdate t (.map (some b)) key val).run P w = .ok () w' /\ dG P K w' b (m + 1) (updF f key val) /\ w.grownBy w' (some b) := by
 obtain ⟨es, clock, hb, hs, hks, hf, hg, hpw⟩ := h
 have hgr : ∀ o, w.grownBy { w with heap := w.heap.setIfInBounds b o } (some b) := fun o => ⟨rfl, rfl, rfl, by simp, fun i _ hi => (MapKept.heap_set hb).2 i (fun e => hi (by rw [e]))⟩
 rcases hK.find w hkey es.toList hks with ⟨h1, h2⟩ | ⟨j, e0, h1, h2, h3⟩
 ·refine ⟨{ w with heap := w.heap.setIfInBounds b (.map (es.push ⟨key, val, clock⟩) (clock + 1)) }, ?_, ⟨_, _, (MapKept.heap_set hb).1, by simp; omega, fun x hx => ?_, fun x hx => ?_, fun k v hkv => ?_, ?_⟩, hgr _⟩
  ·simp [Instr.mapUpdate, run_underlying ht, MapKept.run_getObj_map hb, hK.check w false hkey, h1, MapKept.run_setObj_map _ hb, Result.andThen]
  ·simp only [Array.toList_push, List.mem_append, aR] at hx
   rcases hx with hx | rfl
   ·exact hks x hx
   ·exact ⟨_, hkey⟩
  ·simp only [Array.toList_push, List.mem_append, aR] at hx
   rcases hx with hx | rfl
   ·rw [ff _ _ (h2 x hx)]
    exact hf x hx
   ·exact jo _ _ _
  ·simp only [Array.toList_push, List.mem_append, aR]
   by_cases e : k = key
   ·exact ⟨_, .inr rfl, e.symm⟩
   ·rw [ff _ _ e] at hkv
    obtain ⟨x, hx, ex⟩ := hg k v hkv
    exact ⟨x, .inl hx, ex⟩
  ·rw [Array.toList_push]
   exact List.pairwise_append.2 ⟨hpw, List.pairwise_singleton .., fun a ha c hc => by rw [aR.1 hc]; exact h2 a ha⟩
 ·have hj : es[j]? = some e0 := by simpa using h2
  have hjl : j < es.toList.length := (aE.1 h2).1
  have hlist : (es.modify j (fun e' => { e' with key := key, val := val })).toList = es.toList.set j { e0 with key := key, val := val } := by rw [Array.toList_modify, ChangeMaps.modify_eq_set _ _ _ _ h2]
  have who : ∀ x ∈ es.toList.set j { e0 with key := key, val := val }, x = { e0 with key := key, val := val } ∨ (x ∈ es.toList /\ x.key ≠ key) := by
   intro x hx
   obtain ⟨i, hi⟩ := List.getElem?_of_mem hx
   rw [List.getElem?_set] at hi
   by_cases hne : j = i
   ·rw [if_pos hne, if_pos hjl] at hi
    exact .inl (Option.some.inj hi).symm
   ·rw [if_neg hne] at hi
    refine .inr ⟨aF hi, fun ex => ?_⟩
    obtain ⟨hil, rfl⟩ := aE.1 hi
    have e0e : es.toList[j] = e0 := (aE.1 h2).2
    rcases Nat.lt_trichotomy i j with h | h | h
    ·exact List.pairwise_iff_getElem.1 hpw i j hil hjl h (by rw [ex, e0e, h3])
    ·exact hne h.symm
    ·exact List.pairwise_iff_getElem.1 hpw j i hjl hil h (by rw [ex, e0e, h3])
  refine ⟨{ w with heap := w.heap.setIfInBounds b (.map (es.modify j (fun e' => { e' with key := key, val := val })) clock) }, ?_, ⟨_, _, (MapKept.heap_set hb).1, by simp; omega, fun x hx => ?_, fun x hx => ?_, fun k v hkv => ?_, ?_⟩, hgr _⟩
  ·simp [Instr.mapUpdate, run_underlying ht, MapKept.run_getObj_map hb, hK.check w false hkey, h1, hj, h3, hK.stays w hkey, MapKept.run_setObj_map _ hb, Result.andThen]
  ·rw [hlist] at hx
   rcases who x hx with rfl | ⟨hx, -⟩
   ·exact ⟨_, hkey⟩
   ·exact hks x hx
  ·rw [hlist] at hx
   rcases who x hx with rfl | ⟨hx, hne⟩
   ·exact jo _ _ _
   ·rw [ff _ _ hne]
    exact hf x hx
  ·rw [hlist]
   by_cases e : k = key
   ·exact ⟨{ e0 with key := key, val := val }, List.mem_iff_getElem.2 ⟨j, by simpa using hjl, by simp⟩, e.symm⟩
   ·rw [ff _ _ e] at hkv
    obtain ⟨x, hx, ex⟩ := hg k v hkv
    obtain ⟨i, hi⟩ := List.getElem?_of_mem hx
    have hij : j ≠ i := fun h => by
     subst h
     rw [h2] at hi
     cases hi
     exact e (by rw [<- ex, h3])
    exact ⟨x, aF (i := i) (by rw [List.getElem?_set, if_neg hij]; exact hi), ex⟩
  ·rw [hlist]
   have hkeys : (es.toList.set j { e0 with key := key, val := val }).map (·.key) = es.toList.map (·.key) := by
    apply List.ext_getElem?
    intro i
    rw [aS, aS, List.getElem?_set]
    by_cases hij : j = i
    ·subst hij
     rw [if_pos rfl, if_pos hjl, h2]
     simp [h3]
    ·rw [if_neg hij]
   have h1 : (es.toList.map (·.key)).Pairwise (· ≠ ·) := List.pairwise_map.2 hpw
   rw [<- hkeys] at h1
   exact List.pairwise_map.1 h1
theorem dG.len (h : dG P K w b m f) {t e : TypeId} (ht : P.underlying t = some (.map K e)) (ty : TypeId) : ∃ s : Nat, s <= m /\ (Builtin.len_ #[t] ty #[.map (some b)]).run P w = .ok (.int .i64 s) w := by
 obtain ⟨es, clock, hb, hs, -⟩ := h
 exact ⟨es.size, hs, by simp [Builtin.len_, run_underlying ht, MapKept.run_getObj_map hb, goInt, Result.andThen]⟩
end
def mY (g : List UInt8 -> Option Value) : Value -> Option Value
 | .string s => g s.data.toList
 | _ => none
def mH (g : Int -> Option Value) : Value -> Option Value
 | .int .i64 x => g x
 | _ => none
theorem lO (g : List UInt8 -> Option Value) (l : List UInt8) : mY g (.string ⟨l.toArray⟩) = g l := by simp [mY]
theorem pD (g : List UInt8 -> Option Value) (l : List UInt8) (v : Value) : updF (mY g) (.string ⟨l.toArray⟩) v = mY (fun x => if x = l then some v else g x) := by
 funext x
 by_cases h : x = .string ⟨l.toArray⟩
 ·subst h
  rw [jo, lO, if_pos rfl]
 ·rw [ff _ _ h]
  cases x with
  | string s =>
   show g _ = if _ then _ else _
   rw [if_neg (fun e => h (by congr 1; apply ByteArray.ext; apply Array.toList_inj.1; simpa using e))]
  | _ => rfl
theorem pE : (fun _ : Value => (none : Option Value)) = mY fun _ => none := by
 funext x
 cases x <;> rfl
theorem dM (g : Int -> Option Value) (k : Int) (v : Value) : updF (mH g) (.int .i64 k) v = mH (fun x => if x = k then some v else g x) := by
 funext x
 by_cases h : x = .int .i64 k
 ·subst h
  rw [jo]
  show _ = if k = k then _ else _
  rw [if_pos rfl]
 ·rw [ff _ _ h]
  cases x with
  | int q a =>
   cases q with
   | i64 =>
    show g a = if a = k then _ else _
    rw [if_neg (fun e => h (by rw [e]))]
   | _ => rfl
  | _ => rfl
theorem mG : (fun _ : Value => (none : Option Value)) = mH fun _ => none := by
 funext x
 cases x with
 | int q a => cases q <;> rfl
 | _ => rfl
end
def SeqD (P : Program) (gf : Nat) (lb : Array Value) (m : Nat) (encs : Nat -> Array Value) (view goes : Nat -> World -> Prop) : Prop :=
 ∀ (l : Nat) (J : Nat -> Nat -> World -> Prop) (Jx : World -> Prop), (∀ k μ W W', J k μ W -> Below W.heap.size W W' -> J k μ W') -> (∀ k μ W, J k μ W -> view k W) ->
  (∀ k μ W, k < m -> J k μ W -> ¬ goes k W -> ∃ μ', J (k + 1) μ' W) ->
  (∀ k μ W, k < m -> J k μ W -> goes k W -> YieldAt Fence.wide 7 P l (encs k) W fun e W' => (e = .returned (.bool true) /\ ∃ μ', μ' < μ /\ J k μ' W') ∨ (e = .returned (.bool false) /\ Jx W')) ->
  ∀ W μ, J 0 μ W -> CallsIn Fence.wide 8 P gf (#[.func (.yield l) #[] #[]] ++ lb) W fun e W' => (∃ v, e = .returned v) /\ ((∃ μ, J m μ W') ∨ Jx W')
def oe (I : World -> Prop) (Ix : World -> Prop) (B : Nat -> Prop) (W : World) : Exit -> Act -> World -> Prop
 | .normal, _, W' => ie B W W' /\ I W'
 | .ret, _, W' => ie B W W' /\ Ix W'
 | _, _, _ => False
theorem wp_seqD {P : Program} {f0 : FuncId} {g : Operand} {ps : Array Tmp} {assign body : Code} {Q : Exit -> Act -> World -> Prop} {a : Act} {w : World}
  {gf : Nat} {lb : Array Value} (hg : a.eval g = .func (.func gf) #[] lb) (eg : ∀ args w, (callFunc gf args).run P w = .ok (.enter gf args) w)
  {m : Nat} {encs : Nat -> Array Value} {view goes : Nat -> World -> Prop} (hseq : SeqD P gf lb m encs view goes) (hps : ∀ k, (encs k).size = ps.size)
  (I : Nat -> Nat -> World -> Prop) (Ix : World -> Prop)
  (hI : ∀ k μ W W' r, I k μ W -> W.grownBy W' (some r) -> (r = w.heap.size ∨ r = w.heap.size + 1) -> I k μ W')
  (hIx : ∀ W W' r, Ix W -> W.grownBy W' (some r) -> (r = w.heap.size ∨ r = w.heap.size + 1) -> Ix W')
  (hI2 : ∀ k μ W W', I k μ W -> Below W.heap.size W W' -> I k μ W') (hv : ∀ k μ W, I k μ W -> view k W)
  (hgt : ∀ k W W' r, goes k W -> W.grownBy W' (some r) -> (r = w.heap.size ∨ r = w.heap.size + 1) -> view k W -> goes k W')
  (hnext : ∀ k μ W, k < m -> I k μ W -> ¬ goes k W -> ∃ μ', I (k + 1) μ' W) (μ0 : Nat) (h0 : I 0 μ0 w) (a₁ : Nat -> Act)
  (hassign : ∀ (l k : Nat) (W : World) (K : Act -> World -> Prop), K (a₁ k) W ->
   assign.wpIn (Fence.wide.inRound l) 7 P (Exit.then K (fun _ _ _ => False)) { tmps := (ps.zip (encs k)).foldl (fun t (p, v) => t.setIfInBounds p v) a.tmps, defers := [] } W)
  (hbody : ∀ (l k μ : Nat) (W : World), k < m -> I k μ W -> goes k W -> w.heap.size + 2 <= W.heap.size -> body.wpIn (Fence.wide.inRound l) 7 P (oe (fun W' => ∃ μ', μ' < μ /\ I k μ' W') Ix (fun b => b = w.heap.size ∨ b = w.heap.size + 1) W) (a₁ k) W)
  (hstop : ∀ (W : World), Ix W -> W.heap[w.heap.size]? = some (.deferred (some [])) -> Code.ret.wpIn Fence.wide 9 P Q { a with defers := { target := .collected w.heap.size, args := #[] } :: a.defers } W)
  (hdone : ∀ (W : World) μ, I m μ W -> W.heap[w.heap.size]? = some (.deferred (some [])) -> Q .normal { a with defers := { target := .collected w.heap.size, args := #[] } :: a.defers } W) :
  j9 f0 P (Code.rangeFunc g ps assign body) Q a w := by
 refine fX ?_
 obtain ⟨lp, hlp⟩ : ∃ lp : LoopState -> Option Code -> Loop, lp = fun st pe => { state := st, pending := pe, fn := f0, tmps := a.tmps, params := ps, assign, body, defers := w.heap.size } := ⟨_, rfl⟩
 obtain ⟨W1, hW1⟩ : ∃ W1, (w.alloc (.deferred (some []))).alloc (.loop (lp .ready none)) = W1 := ⟨_, rfl⟩
 have hL1 : W1.heap[w.heap.size + 1]? = some (.loop (lp .ready none)) := by
  rw [<- hW1]; have := World.alloc_heap_new (w.alloc (.deferred (some []))) (.loop (lp .ready none)); rwa [aT] at this
 have hK1 : W1.heap[w.heap.size]? = some (.deferred (some [])) := by
  rw [<- hW1]; exact (aK _ _ _ (by simp)).trans (World.alloc_heap_new w _)
 have hg1 : Below w.heap.size w W1 := by
  rw [<- hW1]
  exact ((aJ _ w).alloc (aH _) _).alloc (by simp) _
 have hI1 : I 0 μ0 W1 := hI2 0 μ0 w W1 h0 hg1
 refine ⟨w.heap.size + 1, [{ target := .collected w.heap.size, args := #[] }], W1, { target := .fn (.func gf) lb, args := #[.func (.yield (w.heap.size + 1)) #[] #[]] }, W1, gf,
  #[.func (.yield (w.heap.size + 1)) #[] #[]] ++ lb, W1, ?_, ?_, ?_, ?_⟩
 ·rw [<- hW1, hlp]; exact run_enterLoop_outer _ _ _ _ _
 ·simp only [resolve, hg]
  simp [go_sem]
 ·simp [invoke, go_sem, eg]
 ·refine (hseq (w.heap.size + 1) (fun k μ W => I k μ W /\ W.heap[w.heap.size + 1]? = some (.loop (lp .ready none)) /\ W.heap[w.heap.size]? = some (.deferred (some [])))
   (fun W => Ix W /\ W.heap[w.heap.size + 1]? = some (.loop (lp .done (some .ret))) /\ W.heap[w.heap.size]? = some (.deferred (some []))) ?_ (fun k μ W h => hv k μ W h.1) (fun k μ W hk h hg => ?_) ?_ W1 μ0 ⟨hI1, hL1, hK1⟩).mono ?_
  ·rintro k μ W W' ⟨h1, h2, h3⟩ hgr
   exact ⟨hI2 k μ W W' h1 hgr, (hgr.block _ (Array.getElem?_eq_some_iff.1 h2).1).trans h2, (hgr.block _ (Array.getElem?_eq_some_iff.1 h3).1).trans h3⟩
  ·obtain ⟨μ', h'⟩ := hnext k μ W hk h.1 hg
   exact ⟨μ', h', h.2⟩
  ·rintro k μ W hk ⟨hi, hl, hd⟩ hgo
   have hlt : w.heap.size + 1 < W.heap.size := (Array.getElem?_eq_some_iff.1 hl).1
   have hy := run_yield (P := P) (args := encs k) hl (by rw [hlp]; exact hps k)
   rw [hlp] at hy
   refine ⟨f0, _, assign, body, hy, roundIn_of_wpIn trivial (hassign _ k W _ ⟨_, run_beginRound hl (by rw [hlp]), ?_⟩)⟩
   have hgb : W.grownBy (W.putObj (w.heap.size + 1) (.loop { lp .ready none with state := .busy })) (some (w.heap.size + 1)) := grownBy_putObj' _ _ _
   have hl2 : (W.putObj (w.heap.size + 1) (.loop { lp .ready none with state := .busy })).heap[w.heap.size + 1]? = some (.loop { lp .ready none with state := .busy }) := World.putObj_heap_same hlt
   have hd2 : (W.putObj (w.heap.size + 1) (.loop { lp .ready none with state := .busy })).heap[w.heap.size]? = some (.deferred (some [])) := (World.putObj_heap_other (by omega)).trans hd
   refine wpIn_mono (hbody _ k μ _ hk (hI k μ W _ _ hi hgb (.inr rfl)) (hgt k W _ _ hgo hgb (.inr rfl) (hv k μ W hi)) (by rw [World.putObj_size]; omega)) ?_
   rintro e a3 W3 hp
   cases e with
   | normal =>
    obtain ⟨hk3, μ', hμ, hi3⟩ := hp
    have hl3 := (hk3 (w.heap.size + 1) (.inr rfl)).trans hl2
    have hd3 := (hk3 w.heap.size (.inl rfl)).trans hd2
    have hend := run_endRound (P := P) none hl3
    refine ⟨_, _, hend, .inl ⟨rfl, μ', hμ, hI _ _ W3 _ _ hi3 (grownBy_putObj' _ _ _) (.inr rfl), ?_, (World.putObj_heap_other (by omega)).trans hd3⟩⟩
    rw [World.putObj_heap_same (Array.getElem?_eq_some_iff.1 hl3).1, hlp]; rfl
   | ret =>
    obtain ⟨hk3, hi3⟩ := hp
    have hl3 := (hk3 (w.heap.size + 1) (.inr rfl)).trans hl2
    have hd3 := (hk3 w.heap.size (.inl rfl)).trans hd2
    have hend := run_endRound (P := P) (some .ret) hl3
    refine ⟨_, _, hend, .inr ⟨rfl, hIx W3 _ _ hi3 (grownBy_putObj' _ _ _) (.inr rfl), ?_, (World.putObj_heap_other (by omega)).trans hd3⟩⟩
    rw [World.putObj_heap_same (Array.getElem?_eq_some_iff.1 hl3).1, hlp]; rfl
   | panic ch => exact hp.elim
   | exit id => exact hp.elim
   | goto t => exact hp.elim
   | outgrown => exact hp.elim
  ·rintro e W2 ⟨⟨v, rfl⟩, ⟨μ, hi, hl, hd⟩ | ⟨hi, hl, hd⟩⟩
   ·refine ⟨none, _, by have := run_endLoop (P := P) hl (by rw [hlp]; simp); rw [hlp] at this; exact this, hdone _ μ (hI m μ W2 _ _ hi (grownBy_putObj' _ _ _) (.inr rfl)) ((World.putObj_heap_other (by omega)).trans hd)⟩
   ·exact ⟨some .ret, _, by have := run_endLoop (P := P) hl (by rw [hlp]; simp); rw [hlp] at this; exact this, hstop _ (hIx W2 _ _ hi (grownBy_putObj' _ _ _) (.inr rfl)) ((World.putObj_heap_other (by omega)).trans hd)⟩
end Go.Proofs.YtpeaiphdkgifaaaGreatDoor
